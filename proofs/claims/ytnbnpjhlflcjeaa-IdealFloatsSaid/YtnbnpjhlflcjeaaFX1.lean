/-
  An operation of the machine does what the model does.
-/
import Derived.CallsIn
import Derived.ChangeKeysEq
import Derived.Laws.StructEq
import Derived.LoopNIn
import Derived.OrdersIn
import Derived.Test.YtnbnpjhlflcjeaaFX0
namespace Go.AM
set_option linter.unusedVariables false
set_option linter.unusedSimpArgs false
theorem fkEq_ok {k l:FloatKind} (h:fkEq k l=true):k=l:=by cases k<;>cases l<;>first | rfl | cases h
theorem fkEq_self (k:FloatKind):fkEq k k=true:=by cases k<;>rfl
theorem nan_of {d:Ieee.Datum} (h:d.isNaN=true):∃ s t,d=.nan s t:=by
 cases d with
 | nan s t=>exact ⟨s,t,rfl⟩
 | number=>simp [Ieee.Datum.isNaN] at h
 | infinity=>simp [Ieee.Datum.isNaN] at h
section
variable {f:Ieee.Format} {a b a' b':Nat}
theorem order_nanL (h:(f.read a).isNaN=true):f.order a b=none:=by
 obtain ⟨s,t,e⟩:=nan_of h
 unfold Ieee.Format.order;rw [e];rfl
theorem order_nanR (h:(f.read b).isNaN=true):f.order a b=none:=by
 obtain ⟨s,t,e⟩:=nan_of h
 unfold Ieee.Format.order;rw [e];cases f.read a<;>rfl
theorem sum_nanR {d:Ieee.Datum} (s:Bool) (t:Nat):d.sum (.nan s t)=none:=by cases d<;>rfl
theorem add_nanL (h:(f.read a).isNaN=true):f.add a b=none:=by
 obtain ⟨s,t,e⟩:=nan_of h
 unfold Ieee.Format.add;rw [e];rfl
theorem add_nanR (h:(f.read b).isNaN=true):f.add a b=none:=by
 obtain ⟨s,t,e⟩:=nan_of h
 unfold Ieee.Format.add;rw [e,sum_nanR];rfl
theorem sub_nanL (h:(f.read a).isNaN=true):f.sub a b=none:=by
 obtain ⟨s,t,e⟩:=nan_of h
 unfold Ieee.Format.sub;rw [e];rfl
theorem sub_nanR (h:(f.read b).isNaN=true):f.sub a b=none:=by
 obtain ⟨s,t,e⟩:=nan_of h
 unfold Ieee.Format.sub;rw [e]
 show ((f.read a).sum (.nan (!s) t)).map _=_
 rw [sum_nanR];rfl
theorem mul_nanL (h:(f.read a).isNaN=true):f.mul a b=none:=by
 obtain ⟨s,t,e⟩:=nan_of h
 unfold Ieee.Format.mul;rw [e];rfl
theorem mul_nanR (h:(f.read b).isNaN=true):f.mul a b=none:=by
 obtain ⟨s,t,e⟩:=nan_of h
 unfold Ieee.Format.mul;rw [e];cases f.read a<;>rfl
theorem div_nanL (h:(f.read a).isNaN=true):f.div a b=none:=by
 obtain ⟨s,t,e⟩:=nan_of h
 unfold Ieee.Format.div;rw [e];rfl
theorem div_nanR (h:(f.read b).isNaN=true):f.div a b=none:=by
 obtain ⟨s,t,e⟩:=nan_of h
 unfold Ieee.Format.div;rw [e];cases f.read a<;>rfl
end
section
variable {k:FloatKind} {a b a' b':Nat}
theorem fltEq.both {g:Nat→Nat→Option Nat} (hL:∀ a b,(k.format.read a).isNaN=true→g a b=none) (hR:∀ a b,(k.format.read b).isNaN=true→g a b=none) (ha:fltEq k a a') (hb:fltEq k b b'):g a b=g a' b':=by
 rcases ha with rfl | ⟨h1,h2⟩
 ·rcases hb with rfl | ⟨h3,h4⟩
  ·rfl
  ·rw [hR _ _ h3,hR _ _ h4]
 ·rw [hL _ _ h1,hL _ _ h2]
theorem fltEq.order (ha:fltEq k a a') (hb:fltEq k b b'):k.format.order a b=k.format.order a' b':=by
 rcases ha with rfl | ⟨h1,h2⟩
 ·rcases hb with rfl | ⟨h3,h4⟩
  ·rfl
  ·rw [order_nanR h3,order_nanR h4]
 ·rw [order_nanL h1,order_nanL h2]
theorem nanRep_nan (k:FloatKind):(k.format.read (nanRep k)).isNaN=true:=by cases k<;>decide
theorem nan_cut (k:FloatKind) (x y t:Nat):(k.format.read ((Question.nanBits k x y).cut t)).isNaN=true:=by
 have e1:(2:Nat)^31=2147483648:=by decide
 have e2:(2:Nat)^63=9223372036854775808:=by decide
 have e3:(2:Nat)^23-1=8388607:=by decide
 have e4:(2:Nat)^52-1=4503599627370495:=by decide
 cases k with
 | f32 =>
  have w1:Ieee.single.signWeight=2147483648:=by decide
  have w2:Ieee.single.binade=8388608:=by decide
  have w3:Ieee.single.infRung=2139095040:=by decide
  simp only [Question.cut,FloatKind.format,Ieee.Format.read,w1,w2,w3,e1,e3]
  have h1:=Nat.mod_lt (t / 2) (by decide:0<8388607)
  rw [show (t%2*2147483648+0x7f800000+1+t / 2%8388607)%2147483648=2139095041+t / 2%8388607 by omega,if_neg (by omega),if_neg (by omega),if_neg (by omega)]
  rfl
 | f64 =>
  have w1:Ieee.double.signWeight=9223372036854775808:=by decide
  have w2:Ieee.double.binade=4503599627370496:=by decide
  have w3:Ieee.double.infRung=9218868437227405312:=by decide
  simp only [Question.cut,FloatKind.format,Ieee.Format.read,w1,w2,w3,e2,e4]
  have h1:=Nat.mod_lt (t / 2) (by decide:0<4503599627370495)
  rw [show (t%2*9223372036854775808+0x7ff0000000000000+1+t / 2%4503599627370495)%9223372036854775808=9218868437227405313+t / 2%4503599627370495 by omega,if_neg (by omega),if_neg (by omega),if_neg (by omega)]
  rfl
theorem fcmp_sem {op:BinOp} {v:Bool} {t:TypeId} (ha:fltEq k a a') (hb:fltEq k b b') (h:fcmp op k a b=some v):binOp op t (.float k a') (.float k b')=Pure.pure (.bool v):=by
 have ho:=ha.order hb
 unfold fcmp at h
 cases op<;>simp only [Option.some.injEq,reduceCtorEq] at h<;>subst h<;>rw [ho] <;>
  simp [binOp,Op.floatCmp]
theorem farith_run {op:BinOp} {n:Nat} {t:TypeId} {P:Program} {w:World} (ha:fltEq k a a') (hb:fltEq k b b') (h:farith op k a b=some n):∃ m w',(binOp op t (.float k a') (.float k b')).run P w=.ok (.float k m) w'∧fltEq k n m∧(w'=w∨w'={ w with drawn:=w.drawn+1 }):=by
 have key:∀ (g:Nat→Nat→Option Nat),(∀ a b,(k.format.read a).isNaN=true→g a b=none)→(∀ a b,(k.format.read b).isNaN=true→g a b=none)→∀ s:Sem Value,s=(match g a' b' with | some r=>Pure.pure (.float k r) | none=>do pure (.float k (←choose (.nanBits k a' b'))))→n=(g a b).getD (nanRep k)→∃ m w',s.run P w=.ok (.float k m) w'∧fltEq k n m∧(w'=w∨w'={ w with drawn:=w.drawn+1 }):=by
  intro g hL hR s hs hn
  rw [fltEq.both hL hR ha hb] at hn
  subst hs
  cases hg:g a' b' with
  | some r =>
   rw [hg] at hn
   simp only [Option.getD_some] at hn
   subst hn
   exact ⟨_,w,rfl,.inl rfl,.inl rfl⟩
  | none =>
   rw [hg] at hn
   simp only [Option.getD_none] at hn
   subst hn
   exact ⟨_,_,rfl,.inr ⟨nanRep_nan k,nan_cut k _ _ _⟩,.inr rfl⟩
 unfold farith at h
 cases op<;>simp only [Option.some.injEq,reduceCtorEq] at h
 ·exact key k.format.add (fun _ _=>add_nanL) (fun _ _=>add_nanR) _ (by simp only [binOp,ne_eq,not_true_eq_false,if_false,Op.floatArith,pure_bind];cases k.format.add a' b'<;>rfl) h.symm
 ·exact key k.format.sub (fun _ _=>sub_nanL) (fun _ _=>sub_nanR) _ (by simp only [binOp,ne_eq,not_true_eq_false,if_false,Op.floatArith,pure_bind];cases k.format.sub a' b'<;>rfl) h.symm
 ·exact key k.format.mul (fun _ _=>mul_nanL) (fun _ _=>mul_nanR) _ (by simp only [binOp,ne_eq,not_true_eq_false,if_false,Op.floatArith,pure_bind];cases k.format.mul a' b'<;>rfl) h.symm
 ·exact key k.format.div (fun _ _=>div_nanL) (fun _ _=>div_nanR) _ (by simp only [binOp,ne_eq,not_true_eq_false,if_false,Op.floatArith,pure_bind];cases k.format.div a' b'<;>rfl) h.symm
theorem f2iF_run {l:FloatKind} {j:IntKind} {n:Int} {P:Program} {w:World} (ha:fltEq l a a') (h:f2iF j l a=some n):(Conv.floatToInt l a' j).run P w=.ok (.int j n) w:=by
 have e:a'=a:=by
  rcases ha with e | ⟨h1,h2⟩
  ·exact e
  ·obtain ⟨s,t,e⟩:=nan_of h1
   unfold f2iF FloatKind.decode at h
   rw [e] at h
   simp [Ieee.Datum.toInt,Ieee.Datum.integral] at h
 subst e
 unfold f2iF at h
 simp only [Option.bind_eq_some_iff] at h
 obtain ⟨m,h1,h2⟩:=h
 split at h2
 ·rename_i hm
  cases h2
  unfold Conv.floatToInt
  rw [h1]
  simp only [hm,and_self,if_true]
  rfl
 ·cases h2
end
end Go.AM
namespace Go.AM
set_option linter.unusedVariables false
set_option linter.unusedSimpArgs false
def compC (P:Program):Nat→Code→ACode→Prop:=fun N c a=>cCode P N c=some a
def GOk (P:Program) (h:AHeap):Prop:=h.g=P.globals.size∧h.C=compC P
theorem GOk.ext {P:Program} {h h':AHeap} {β β':Pl} {w w':World} (g:GOk P h) (X:Ext h β w h' β' w'):GOk P h':=⟨X.gl.trans g.1,X.ext.1.2.trans g.2⟩
structure Good (P:Program) (h:AHeap) (β:Pl) (w:World) (e:Env) (tmps:Array Value):Prop where
 rel:Rel h β w
 env:∀ t,vrel h β (e.val t) (tmps.getD t undef)
 g:GOk P h
theorem ofVal_vrel {v:Value} {a:AVal} (e:ofVal v=some a) (h:AHeap) (β:Pl):vrel h β a v:=by
 unfold ofVal at e
 split at e<;>simp at e<;>subst e<;>simp [vrel,fltEq_refl]
theorem ofVals_vrels {h:AHeap} {β:Pl}:∀ {vs:List Value} {as:List AVal},ofVals vs=some as→vrels h β as vs
 | [],as,e=>by simp [ofVals] at e;subst e;simp [vrels]
 | v::vs,as,e=>by
  simp only [ofVals,Option.bind_eq_some_iff,Option.map_eq_some_iff] at e
  obtain ⟨a,h1,as',h2,rfl⟩:=e
  exact vrels_cons_cons.2 ⟨ofVal_vrel h1 _ _,ofVals_vrels h2⟩
theorem ofVal_cell {v:Value} {a:AVal} (e:ofVal v=some a):a.cell=true:=by
 unfold ofVal at e
 split at e<;>simp at e<;>subst e<;>rfl
theorem ofVals_cells:∀ {vs:List Value} {as:List AVal},ofVals vs=some as→as.all (·.cell)=true
 | [],as,e=>by simp [ofVals] at e;subst e;rfl
 | v::vs,as,e=>by
  simp only [ofVals,Option.bind_eq_some_iff,Option.map_eq_some_iff] at e
  obtain ⟨a,h1,as',h2,rfl⟩:=e
  simp [ofVal_cell h1,ofVals_cells h2]
theorem ofVal_cells {v:Value} {a:AVal} (e:ofVal v=some a):a.cells=[a]∧v.cells=#[v]:=by
 unfold ofVal at e
 split at e<;>simp at e<;>subst e<;>exact ⟨rfl,rfl⟩
theorem ofZero_vrel {v:Value} {a:AVal} (e:ofZero v=some a) (h:AHeap) (β:Pl):vrel h β a v∧vrels h β a.cells v.cells.toList∧a.cells.all (·.cell)=true:=by
 unfold ofZero at e
 split at e
 ·simp only [Option.map_eq_some_iff] at e
  obtain ⟨as,h1,rfl⟩:=e
  have:=ofVals_vrels (h:=h) (β:=β) h1
  exact ⟨by simp only [vrel];exact ⟨_,rfl,this⟩,this,ofVals_cells h1⟩
 ·obtain ⟨e1,e2⟩:=ofVal_cells e
  have:=ofVal_vrel e h β
  rw [e1,e2]
  exact ⟨this,vrels_cons_cons.2 ⟨this,by simp [vrels]⟩,by simp [ofVal_cell e]⟩
theorem opd_vrel {P : Program} {h : AHeap} {β : Pl} {w : World} {e : Env} {a : Act} (G : Good P h β w e a.tmps) {x : Operand} {ax : AOpd} (hx : cOpd P x = some ax) :
    vrel h β (opd e ax) (a.eval x):=by
  cases x with
  | tmp t=>simp [cOpd] at hx;subst hx;exact G.env t
  | const v=>simp only [cOpd,Option.map_eq_some_iff] at hx;obtain ⟨b,h1,rfl⟩:=hx;exact ofVal_vrel h1 _ _
  | global g =>
    simp only [cOpd] at hx
    split at hx
    · rename_i hg
      simp at hx;subst hx
      obtain ⟨g1,g2,g3,g4,g5⟩:=G.rel.glob g (by rw [G.g.1];exact hg)
      simp only [opd,vrel,Act.eval]
      exact ⟨_,rfl,g1,Nat.zero_le _,fun _=>by rw [g4,g5]⟩
    · simp at hx
  | func f=>simp [cOpd] at hx;subst hx;simp [opd,vrel,Act.eval,vrels]
theorem opds_vrels {P : Program} {h : AHeap} {β : Pl} {w : World} {e : Env} {a : Act} (G : Good P h β w e a.tmps) : ∀ {xs : List Operand} {as : List AOpd}, cOpds P xs = some as →
    vrels h β (as.map (opd e)) (xs.map a.eval)
  | [],as,hx=>by simp [cOpds] at hx;subst hx;simp [vrels]
  | x::xs,as,hx=>by
    simp only [cOpds,Option.bind_eq_some_iff,Option.map_eq_some_iff] at hx
    obtain ⟨b,h1,bs,h2,rfl⟩:=hx
    exact vrels_cons_cons.2 ⟨opd_vrel G h1,opds_vrels G h2⟩
theorem lit_vrel {h:AHeap} {β:Pl} {a:AVal} {x v:Value} (hl:a.lit=some x) (r:vrel h β a v):v=x:=by
 cases a<;>simp [AVal.lit] at hl<;>subst hl<;>simpa [vrel] using r
theorem unlit_vrel {h:AHeap} {β:Pl} {a:AVal} {x:Value} (hl:unlit x=some a):vrel h β a x:=by
 cases x<;>simp [unlit] at hl<;>subst hl<;>simp [vrel]
theorem ofSem_run {h:AHeap} {β:Pl} {P:Program} {w:World} {s:Sem Value} {a:AVal} (e:ofSem s=some a):∃ v,s.run P w=.ok v w∧vrel h β a v:=by
 cases s<;>simp [ofSem] at e
 exact ⟨_,rfl,unlit_vrel e⟩
def Did (P:Program) (o:Oper) (ρ:Operand→Value) (h:AHeap) (β:Pl) (w:World) (av:AVal) (h':AHeap):Prop :=
 ∃ w' β',((∃ v,(execOp ρ o).run P w=.ok (.value v) w'∧vrel h' β' av v)∨((execOp ρ o).run P w=.ok .skip w'∧av=.undef))∧Rel h' β' w'∧Ext h β w h' β' w'
theorem Did.pure {P : Program} {o : Oper} {ρ : Operand → Value} {h : AHeap} {β : Pl} {w : World} {av : AVal} {v : Value} (R : Rel h β w)
    (hr:(execOp ρ o).run P w=.ok (.value v) w) (hv:vrel h β av v):Did P o ρ h β w av h:=⟨w,β,.inl ⟨v,hr,hv⟩,R,Ext.refl _ _ _⟩
theorem Did.val {P : Program} {o : Oper} {ρ : Operand → Value} {h : AHeap} {β : Pl} {w : World} {av : AVal} {h' : AHeap} {v : Value} {w' : World} {β' : Pl}
    (hr:(execOp ρ o).run P w=.ok (.value v) w') (hv:vrel h' β' av v) (R:Rel h' β' w') (X:Ext h β w h' β' w'):Did P o ρ h β w av h':=⟨w',β',.inl ⟨v,hr,hv⟩,R,X⟩
section
variable {P:Program} {h h':AHeap} {β:Pl} {w:World} {e:Env} {a:Act} {o:Oper} {av:AVal} (G:Good P h β w e a.tmps)
 include G
theorem sim_mov {x:Operand} {ax:AOpd} (ho:o.op=.move x∨o.op=.assign x) (hx:cOpd P x=some ax) (he:aop e h (.mov ax)=some (av,h')):Did P o a.eval h β w av h':=by
 simp only [aop,opMov,opPick,opAlloc,opBox,opBuild,opBuildSlice,opLoad,opStore,opNilCheck,opBin,opEql,opUn,opConv,opB2s,opMkIface,opMkFn,opMkMap,opMkSlice,opSlice,opFieldAddr,opField,opIdxS,opIdxA,opIndex,opIndexStr,opLookup,opMapUpd,opAssertT,opExtract,opLenS,opLenT,opLenM,opMin,opMax,opAppend,opCopy,opDelete,Option.some.injEq,Prod.mk.injEq] at he
 obtain ⟨rfl,rfl⟩:=he
 exact .pure G.rel (v:=a.eval x) (by unfold execOp;rcases ho with ho | ho<;>rw [ho]<;>rfl) (opd_vrel G hx)
theorem sim_pick {c x y : Operand} {ac ax ay : AOpd} (ho : o.op = .pick c x y) (hc : cOpd P c = some ac) (hx : cOpd P x = some ax) (hy : cOpd P y = some ay)
    (he:aop e h (.pick ac ax ay)=some (av,h')):Did P o a.eval h β w av h':=by
  simp only [aop,opMov,opPick,opAlloc,opBox,opBuild,opBuildSlice,opLoad,opStore,opNilCheck,opBin,opEql,opUn,opConv,opB2s,opMkIface,opMkFn,opMkMap,opMkSlice,opSlice,opFieldAddr,opField,opIdxS,opIdxA,opIndex,opIndexStr,opLookup,opMapUpd,opAssertT,opExtract,opLenS,opLenT,opLenM,opMin,opMax,opAppend,opCopy,opDelete] at he
  have rc:=opd_vrel G hc
  split at he
  · rename_i t ht
    simp only [Option.some.injEq,Prod.mk.injEq] at he
    obtain ⟨rfl,rfl⟩:=he
    rw [ht] at rc
    simp only [vrel] at rc
    refine .pure G.rel (v:=if t then a.eval x else a.eval y) (by unfold execOp;rw [ho];simp [rc,asBool]) ?_
    cases t
    · exact opd_vrel G hy
    · exact opd_vrel G hx
  · simp at he
theorem sim_alloc {t:TypeId} {z:AVal} (ho:o.op=.alloc t) (hz:zeroT P t=some z) (he:aop e h (.alloc z.cells)=some (av,h')):Did P o a.eval h β w av h':=by
 simp only [aop,opMov,opPick,opAlloc,opBox,opBuild,opBuildSlice,opLoad,opStore,opNilCheck,opBin,opEql,opUn,opConv,opB2s,opMkIface,opMkFn,opMkMap,opMkSlice,opSlice,opFieldAddr,opField,opIdxS,opIdxA,opIndex,opIndexStr,opLookup,opMapUpd,opAssertT,opExtract,opLenS,opLenT,opLenM,opMin,opMax,opAppend,opCopy,opDelete,Option.some.injEq,Prod.mk.injEq] at he
 obtain ⟨rfl,rfl⟩:=he
 simp only [zeroT,Option.bind_eq_some_iff] at hz
 obtain ⟨i,hi,zv,hzv,hz⟩:=hz
 have hcells:=(ofZero_vrel hz h β).2.1
 have hl:=vrels_length hcells
 simp at hl
 obtain ⟨R',X⟩:=new_row G.rel t (vs:=z.cells) (c:=zv.cells) z.cells.length (Nat.le_refl _) (by omega) (by rw [List.take_of_length_le (by simp;omega)];exact hcells)
 refine .val (v:=.pointer (some ⟨w.heap.size,0,none⟩)) ?_ ?_ R' X
 ·unfold execOp;rw [ho];simp only [Instr.alloc,Sem.run_bind,run_zeroValue_of hi hzv,newVar,newRow,run_newObj,Result.andThen_ok,Sem.run_pure];rfl
 ·simp only [vrel]
  exact ⟨_,rfl,by simp,Nat.zero_le _,fun _=>by simp⟩
theorem cells_vrels {x:Operand} {ax:AOpd} (hx:cOpd P x=some ax) (hc:(opd e ax).cells.all (·.cell)=true):vrels h β (opd e ax).cells (a.eval x).cells.toList:=by
 have rx:=opd_vrel G hx
 generalize opd e ax=ao at *
 generalize a.eval x=v at *
 cases ao with
 | agg cs=>simp only [vrel] at rx;obtain ⟨x',rfl,r⟩:=rx;exact r
 | tup cs=>simp [AVal.cells,AVal.cell] at hc
 | undef=>simp [AVal.cells,AVal.cell] at hc
 | _ =>
  have h1:=oneCell_of (a:=_) (by simpa [AVal.cells] using hc) rx
  have h2:v.cells=#[v]:=by cases v<;>first | rfl | simp [Value.oneCell'] at h1
  rw [h2]
  exact vrels_cons_cons.2 ⟨rx,by simp [vrels]⟩
theorem sim_box {t:TypeId} {x:Operand} {ax:AOpd} (ho:o.op=.box t x) (hx:cOpd P x=some ax) (he:aop e h (.box ax)=some (av,h')):Did P o a.eval h β w av h':=by
 simp only [aop,opMov,opPick,opAlloc,opBox,opBuild,opBuildSlice,opLoad,opStore,opNilCheck,opBin,opEql,opUn,opConv,opB2s,opMkIface,opMkFn,opMkMap,opMkSlice,opSlice,opFieldAddr,opField,opIdxS,opIdxA,opIndex,opIndexStr,opLookup,opMapUpd,opAssertT,opExtract,opLenS,opLenT,opLenM,opMin,opMax,opAppend,opCopy,opDelete] at he
 split at he
 ·rename_i hc
  simp only [Option.some.injEq,Prod.mk.injEq] at he
  obtain ⟨rfl,rfl⟩:=he
  have hcells:=cells_vrels G hx hc
  have hl:=vrels_length hcells
  simp at hl
  obtain ⟨R',X⟩:=new_row G.rel t (vs:=(opd e ax).cells) (c:=(a.eval x).cells) (opd e ax).cells.length (Nat.le_refl _) (by omega) (by rw [List.take_of_length_le (by simp;omega)];exact hcells)
  refine .val (v:=.pointer (some ⟨w.heap.size,0,none⟩)) ?_ ?_ R' X
  ·unfold execOp;rw [ho];simp only [Instr.box,Sem.run_bind,newVar,newRow,run_newObj,Result.andThen_ok,Sem.run_pure];rfl
  ·simp only [vrel]
   exact ⟨_,rfl,by simp,Nat.zero_le _,fun _=>by simp⟩
 ·simp at he
theorem sim_nilCheck {x:Operand} {ax:AOpd} (ho:o.op=.nilCheck x) (hx:cOpd P x=some ax) (he:aop e h (.nilCheck ax)=some (av,h')):Did P o a.eval h β w av h':=by
 simp only [aop,opMov,opPick,opAlloc,opBox,opBuild,opBuildSlice,opLoad,opStore,opNilCheck,opBin,opEql,opUn,opConv,opB2s,opMkIface,opMkFn,opMkMap,opMkSlice,opSlice,opFieldAddr,opField,opIdxS,opIdxA,opIndex,opIndexStr,opLookup,opMapUpd,opAssertT,opExtract,opLenS,opLenT,opLenM,opMin,opMax,opAppend,opCopy,opDelete] at he
 have rx:=opd_vrel G hx
 split at he
 ·rename_i id g off hh
  simp only [Option.some.injEq,Prod.mk.injEq] at he
  obtain ⟨rfl,rfl⟩:=he
  rw [hh] at rx
  have rx':=rx
  simp only [vrel] at rx
  obtain ⟨ad,ev,_⟩:=rx
  exact .pure G.rel (by unfold execOp;rw [ho];simp only [ev];rfl) (by rw [←ev];exact rx')
 ·rename_i f x1 x2 hh
  simp only [Option.some.injEq,Prod.mk.injEq] at he
  obtain ⟨rfl,rfl⟩:=he
  rw [hh] at rx
  have rx':=rx
  simp only [vrel] at rx
  obtain ⟨p,q,ev,_⟩:=rx
  exact .pure G.rel (by unfold execOp;rw [ho];simp only [ev];rfl) (by rw [←ev];exact rx')
 ·rename_i f x1 x2 hh
  simp only [Option.some.injEq,Prod.mk.injEq] at he
  obtain ⟨rfl,rfl⟩:=he
  rw [hh] at rx
  have rx':=rx
  simp only [vrel] at rx
  obtain ⟨p,q,ev,_⟩:=rx
  exact .pure G.rel (by unfold execOp;rw [ho];simp only [ev];rfl) (by rw [←ev];exact rx')
 ·rename_i id hh
  simp only [Option.some.injEq,Prod.mk.injEq] at he
  obtain ⟨rfl,rfl⟩:=he
  rw [hh] at rx
  have rx':=rx
  simp only [vrel] at rx
  obtain ⟨p,ev,_⟩:=rx
  exact .pure G.rel (by unfold execOp;rw [ho];simp only [ev];rfl) (by rw [←ev];exact rx')
 ·simp at he
theorem sim_fieldAddr {t : TypeId} {x : Operand} {i : Nat} {f : Field} {s : Nat} {ax : AOpd} (ho : o.op = .fieldAddr t x i) (hf : structField P t i = some f) (hs : sizeT P f.type = some (s + 1)) (hx : cOpd P x = some ax)
    (he:aop e h (.fieldAddr f.offset ax)=some (av,h')):Did P o a.eval h β w av h':=by
  simp only [aop,opMov,opPick,opAlloc,opBox,opBuild,opBuildSlice,opLoad,opStore,opNilCheck,opBin,opEql,opUn,opConv,opB2s,opMkIface,opMkFn,opMkMap,opMkSlice,opSlice,opFieldAddr,opField,opIdxS,opIdxA,opIndex,opIndexStr,opLookup,opMapUpd,opAssertT,opExtract,opLenS,opLenT,opLenM,opMin,opMax,opAppend,opCopy,opDelete] at he
  have rx:=opd_vrel G hx
  split at he
  · rename_i id g off hh
    simp only [Option.some.injEq,Prod.mk.injEq] at he
    obtain ⟨rfl,rfl⟩:=he
    rw [hh] at rx
    simp only [vrel] at rx
    obtain ⟨ad,ev,hp1,hp2,hp3⟩:=rx
    simp only [structField] at hf
    split at hf
    · rename_i fs hu
      simp only [sizeT,Option.map_eq_some_iff] at hs
      obtain ⟨ti,hti,hsz⟩:=hs
      refine .pure G.rel (v:=.pointer (some (ad.add f.offset))) ?_ ?_
      · unfold execOp;rw [ho]
        simp [Instr.fieldAt,run_underlying_of hu,hf,ev,Instr.sureAddr,fieldPlace,run_sizeOf_of hti,hsz]
      · simp only [vrel]
        refine ⟨_,rfl,hp1,hp2,fun eg=>?_⟩
        rw [hp3 eg,addr_add,Nat.add_assoc]
    · simp at hf
  · simp at he
theorem sim_load {t : TypeId} {x : Operand} {n : Option Nat} {ax : AOpd} (ho : o.op = .load t x) (hn : aggN P t = some n) (hx : cOpd P x = some ax)
    (he:aop e h (.load n ax)=some (av,h')):Did P o a.eval h β w av h':=by
  simp only [aop,opMov,opPick,opAlloc,opBox,opBuild,opBuildSlice,opLoad,opStore,opNilCheck,opBin,opEql,opUn,opConv,opB2s,opMkIface,opMkFn,opMkMap,opMkSlice,opSlice,opFieldAddr,opField,opIdxS,opIdxA,opIndex,opIndexStr,opLookup,opMapUpd,opAssertT,opExtract,opLenS,opLenT,opLenM,opMin,opMax,opAppend,opCopy,opDelete] at he
  have rx:=opd_vrel G hx
  split at he
  · rename_i id g off hh
    rw [hh] at rx
    simp only [vrel] at rx
    obtain ⟨ad,ev,hp1,hp2,hp3⟩:=rx
    rw [if_pos hp1] at he
    simp only [aggN,isAggT,Option.bind_eq_some_iff,Option.map_eq_some_iff] at hn
    obtain ⟨b,⟨d,hd,hb⟩,hn⟩:=hn
    have hagg:(isAgg t).run P w=.ok b w:=by
      unfold isAgg
      simp only [Sem.run_bind,run_underlying_of hd,Result.andThen_ok]
      subst hb
      cases d<;>rfl
    split at he
    ·
      simp only [Option.bind_eq_some_iff] at he
      obtain ⟨cs,hrd,he⟩:=he
      split at he
      · rename_i v
        simp only [Option.some.injEq,Prod.mk.injEq] at he
        obtain ⟨rfl,rfl⟩:=he
        have hbf:b=false:=by
          cases b
          · rfl
          · rw [if_pos rfl] at hn;simp only [Option.map_eq_some_iff] at hn;obtain ⟨_,_,h2⟩:=hn;cases h2
        subst hbf
        obtain ⟨hg,vs,hvs,hvl,_,hc⟩:=read_at G.rel hp1 hrd
        obtain ⟨v',ws,rfl,hv',_⟩:=vrels_cons.1 hvs
        have h0:=hc 0 v' rfl
        have ha:=hp3 hg
        subst ha
        have h0':w.cell? ⟨(β id).b,(β id).o+off,none⟩=some v':=by simpa [Addr.add] using h0
        refine .pure G.rel (v:=v') ?_ hv'
        unfold execOp;rw [ho]
        simp [Instr.loadAt,ev,Instr.sureAddr,loadVar,hagg,h0']
      · simp at he
    · rename_i m
      simp only [Option.map_eq_some_iff,Prod.mk.injEq] at he
      obtain ⟨cs,hrd,rfl,rfl⟩:=he
      have hbt:b=true∧sizeT P t=some m:=by
        cases b
        · simp at hn
        · rw [if_pos rfl] at hn;simp only [Option.map_eq_some_iff] at hn;obtain ⟨k,h1,h2⟩:=hn;cases h2;exact ⟨rfl,h1⟩
      obtain ⟨rfl,hsz⟩:=hbt
      simp only [sizeT,Option.map_eq_some_iff] at hsz
      obtain ⟨ti,hti,hsz⟩:=hsz
      obtain ⟨hg,vs,hvs,hvl,_,hc⟩:=read_at G.rel hp1 hrd
      have ha:=hp3 hg
      subst ha
      have hld:=run_loadCells_list (P:=P) w ⟨(β id).b,(β id).o+off,none⟩ vs hc
      rw [hvl] at hld
      refine .pure G.rel (v:=.agg vs.toArray) ?_ (by simp only [vrel];exact ⟨_,rfl,by simpa using hvs⟩)
      unfold execOp;rw [ho]
      simp [Instr.loadAt,ev,Instr.sureAddr,loadVar,hagg,run_sizeOf_of hti,hsz,hld]
  · simp at he
theorem sim_store {t : TypeId} {x y : Operand} {n : Nat} {ax ay : AOpd} (ho : o.op = .store t x y) (hn : sizeT P t = some n) (hx : cOpd P x = some ax) (hy : cOpd P y = some ay)
    (he:aop e h (.store n ax ay)=some (av,h')):Did P o a.eval h β w av h':=by
  simp only [aop,opMov,opPick,opAlloc,opBox,opBuild,opBuildSlice,opLoad,opStore,opNilCheck,opBin,opEql,opUn,opConv,opB2s,opMkIface,opMkFn,opMkMap,opMkSlice,opSlice,opFieldAddr,opField,opIdxS,opIdxA,opIndex,opIndexStr,opLookup,opMapUpd,opAssertT,opExtract,opLenS,opLenT,opLenM,opMin,opMax,opAppend,opCopy,opDelete] at he
  have rx:=opd_vrel G hx
  split at he
  · rename_i id g off hh
    rw [hh] at rx
    simp only [vrel] at rx
    obtain ⟨ad,ev,hp1,hp2,hp3⟩:=rx
    split at he
    · rename_i hc
      simp only [Option.map_eq_some_iff,Prod.mk.injEq] at he
      obtain ⟨h2,hw,rfl,rfl⟩:=he
      have hall:(opd e ay).cells.all (·.cell)=true:=by
        unfold AHeap.wr at hw
        split at hw
        · split at hw
          · rename_i hcc;exact hcc.2.2
          · simp at hw
        · simp at hw
      have hcells:=cells_vrels G hy hall
      have hl:=vrels_length hcells
      simp only [sizeT,Option.map_eq_some_iff] at hn
      obtain ⟨ti,hti,hsz⟩:=hn
      obtain ⟨hg,w',hst,R',X⟩:=write_at (P:=P) G.rel hp1 hw hcells
      have ha:=hp3 hg
      subst ha
      refine ⟨w',β,.inr ⟨?_,rfl⟩,R',X⟩
      unfold execOp;rw [ho]
      simp only [Instr.storeAt,ev,Instr.sureAddr,storeVar,Sem.run_bind,Sem.run_pure,Result.andThen_ok,run_sizeOf_of hti,hsz]
      have hsz2:(a.eval y).cells.size=n:=by simpa [hc.2] using hl
      rw [if_neg (by simp [hsz2])]
      simp [hst]
    · simp at he
  · simp at he
end
end Go.AM
namespace Go.AM
set_option linter.unusedVariables false
set_option linter.unusedSimpArgs false
theorem foldl_set (xs : List Value) : ∀ (k off : Nat) (cs : Array Value), off + k + xs.length ≤ cs.size →
    ((xs.zipIdx k).foldl (fun (cs:Array Value) (p:Value×Nat)=>cs.setIfInBounds (off+p.2) p.1) cs).toList=cs.toList.take (off+k)++xs++cs.toList.drop (off+k+xs.length):=by
  induction xs with
  | nil=>intro k off cs h;simp
  | cons x xs ih =>
    intro k off cs h
    simp only [List.zipIdx_cons,List.foldl_cons]
    rw [ih (k+1) off (cs.setIfInBounds (off+k) x) (by simp at h ⊢;omega)]
    have:=list_seg_step cs.toList (off+k) x xs (by simp at h ⊢;omega)
    simpa [Array.toList_setIfInBounds,Nat.add_assoc] using this
theorem fill_run {h : AHeap} {β : Pl} (place : Nat → Option (Nat × Nat)) : ∀ (ps : List (Nat × Value)) (qs : List (Nat × Nat × AVal)) (cells : Array Value) (cs rs : List AVal),
    vrels h β cs cells.toList→qs.length=ps.length→(∀ (j i:Nat) (v:Value),ps[j]?=some (i,v)→∃ (o s:Nat) (x:AVal),qs[j]?=some (o,s,x)∧place i=some (o,s)∧(x.cells.all (·.cell)=true→vrels h β x.cells v.cells.toList)) →
    fillP cs qs=some rs→∃ out,Instr.fill place cells ps=some out∧vrels h β rs out.toList
  | [],qs,cells,cs,rs,hc,hl,hq,hf=>by
    obtain rfl:qs=[]:=List.eq_nil_of_length_eq_zero (by simpa using hl)
    simp only [fillP,Option.some.injEq] at hf
    subst hf
    exact ⟨cells,rfl,hc⟩
  | (i,v)::ps,[],cells,cs,rs,hc,hl,hq,hf=>by simp at hl
  | (i,v)::ps,(o,s,x)::qs,cells,cs,rs,hc,hl,hq,hf=>by
    obtain ⟨o',s',x',e1,hp,hx⟩:=hq 0 i v rfl
    simp only [List.getElem?_cons_zero,Option.some.injEq,Prod.mk.injEq] at e1
    obtain ⟨rfl,rfl,rfl⟩:=e1
    simp only [fillP] at hf
    split at hf
    · rename_i hcond
      obtain ⟨h1,h2,h3⟩:=hcond
      have hv:=hx h3
      have hvl:=vrels_length hv
      have hcl:=vrels_length hc
      simp at hvl hcl
      simp only [Instr.fill,hp]
      rw [if_neg (by simp;omega)]
      refine fill_run place ps qs _ _ rs ?_ (by simpa using hl) (fun j i v hj=>hq (j+1) i v hj) hf
      rw [←Array.foldl_toList,Array.toList_zipIdx]
      have:=foldl_set v.cells.toList 0 o cells (by simp;omega)
      simp only [Nat.add_zero] at this
      rw [this]
      have e2:v.cells.toList.length=s:=by simp;omega
      rw [e2]
      exact vrels_append (vrels_append (vrels_take o hc) hv) (vrels_drop _ hc)
    · simp at hf
theorem run_placesOf {P : Program} {w : World} : ∀ {fs : List Field} {pl : List (Nat × Nat)}, placesOf P fs = some pl →
    (fs.mapM fun (f:Field)=>(do pure (f.offset,←sizeOf f.type):Sem (Nat×Nat))).run P w=.ok pl w
  | [],pl,e=>by simp [placesOf] at e;subst e;rfl
  | f::fs,pl,e=>by
    simp only [placesOf,Option.bind_eq_some_iff,Option.map_eq_some_iff] at e
    obtain ⟨s,h1,pl',h2,rfl⟩:=e
    simp only [sizeT,Option.map_eq_some_iff] at h1
    obtain ⟨i,hi,rfl⟩:=h1
    have ih:=run_placesOf (w:=w) h2
    simp only [List.mapM_cons,Sem.run_bind,run_sizeOf_of hi,Result.andThen_ok,Sem.run_pure,ih]
section
variable {P:Program} {h h':AHeap} {β:Pl} {w:World} {e:Env} {a:Act} {o:Oper} {av:AVal} (G:Good P h β w e a.tmps)
 include G
theorem parts_rel (pl : Nat → Option (Nat × Nat)) : ∀ {ps : List (Nat × Operand)} {qs : List (Nat × Nat × AOpd)}, cParts P pl ps = some qs →
    (qs.map fun (o,s,x)=>(o,s,opd e x)).length=(ps.map fun (i,x)=>(i,a.eval x)).length ∧
    ∀ (j i:Nat) (v:Value),(ps.map fun (i,x)=>(i,a.eval x))[j]?=some (i,v)→∃ (o s:Nat) (x:AVal),(qs.map fun (o,s,x)=>(o,s,opd e x))[j]?=some (o,s,x)∧pl i=some (o,s)∧(x.cells.all (·.cell)=true→vrels h β x.cells v.cells.toList)
  | [],qs,hq=>by simp [cParts] at hq;subst hq;simp
  | (i,x)::ps,qs,hq=>by
    simp only [cParts,Option.bind_eq_some_iff,Option.map_eq_some_iff,Prod.exists] at hq
    obtain ⟨o,s,h1,b,h2,qs',h3,rfl⟩:=hq
    obtain ⟨hl,hr⟩:=parts_rel pl h3
    refine ⟨by simpa using hl,fun j i' v hj=>?_⟩
    cases j with
    | zero =>
      simp only [List.map_cons,List.getElem?_cons_zero,Option.some.injEq,Prod.mk.injEq] at hj ⊢
      obtain ⟨rfl,rfl⟩:=hj
      exact ⟨o,s,_,⟨rfl,rfl,rfl⟩,h1,fun hc=>cells_vrels G h2 hc⟩
    | succ j =>
      simp only [List.map_cons,List.getElem?_cons_succ] at hj ⊢
      exact hr j i' v hj
theorem sim_build {t:TypeId} {ps:Array (Nat×Operand)} {b:AOp} (ho:o.op=.build t ps) (hb:cOp P (.build t ps)=some b) (he:aop e h b=some (av,h')):Did P o a.eval h β w av h':=by
 simp only [cOp,Option.bind_eq_some_iff] at hb
 obtain ⟨z,hz,hb⟩:=hb
 have hz':=hz
 simp only [zeroT,Option.bind_eq_some_iff] at hz
 obtain ⟨ti,hti,zv,hzv,hz⟩:=hz
 have hzc:=(ofZero_vrel hz h β).2.1
 split at hb
 ·rename_i zs
  simp only [AVal.cells] at hzc
  split at hb
  ·rename_i fs hu
   simp only [Option.bind_eq_some_iff,Option.map_eq_some_iff] at hb
   obtain ⟨pl,hpl,qs,hqs,rfl⟩:=hb
   simp only [aop,opMov,opPick,opAlloc,opBox,opBuild,opBuildSlice,opLoad,opStore,opNilCheck,opBin,opEql,opUn,opConv,opB2s,opMkIface,opMkFn,opMkMap,opMkSlice,opSlice,opFieldAddr,opField,opIdxS,opIdxA,opIndex,opIndexStr,opLookup,opMapUpd,opAssertT,opExtract,opLenS,opLenT,opLenM,opMin,opMax,opAppend,opCopy,opDelete,Option.map_eq_some_iff,Prod.mk.injEq] at he
   obtain ⟨cs,hf,rfl,rfl⟩:=he
   obtain ⟨hl,hr⟩:=parts_rel G _ hqs
   obtain ⟨out,hout,hv⟩:=fill_run (pl[·]?) _ _ zv.cells zs cs hzc hl hr hf
   refine .pure G.rel (v:=.agg out) ?_ (by simp only [vrel];exact ⟨_,rfl,hv⟩)
   unfold execOp;rw [ho]
   have hpl':=run_placesOf (P:=P) (w:=w) hpl
   have hpl2:(fs.mapM fun (f:Field)=>(do pure (f.offset,←sizeOf f.type):Sem (Nat×Nat))).run P w=.ok pl.toArray w:=by
    rw [Array.mapM_eq_mapM_toList]
    simp only [Sem.run_bind,Sem.run_map,hpl',Result.andThen_ok]
   have hout':Instr.fill (fun (x:Nat)=>pl.toArray[x]?) zv.cells ((Array.map (fun (x:Nat×Operand)=>(x.1,a.eval x.2)) ps).toList)=some out:=by
    have e1:(fun (x:Nat)=>pl.toArray[x]?)=(fun (x:Nat)=>pl[x]?):=by funext x;simp
    rw [e1,Array.toList_map];exact hout
   simp only [Instr.build,Sem.run_bind,run_zeroValue_of hti hzv,run_underlying_of hu,Result.andThen_ok,hpl2]
   have:(Array.map (fun x=>match x with | (i,x)=>(i,a.eval x)) ps).toList=(Array.map (fun (x:Nat×Operand)=>(x.1,a.eval x.2)) ps).toList:=rfl
   rw [this,hout']
   rfl
  ·rename_i n el hu
   simp only [Option.bind_eq_some_iff,Option.map_eq_some_iff] at hb
   obtain ⟨s,hs,qs,hqs,rfl⟩:=hb
   simp only [aop,opMov,opPick,opAlloc,opBox,opBuild,opBuildSlice,opLoad,opStore,opNilCheck,opBin,opEql,opUn,opConv,opB2s,opMkIface,opMkFn,opMkMap,opMkSlice,opSlice,opFieldAddr,opField,opIdxS,opIdxA,opIndex,opIndexStr,opLookup,opMapUpd,opAssertT,opExtract,opLenS,opLenT,opLenM,opMin,opMax,opAppend,opCopy,opDelete,Option.map_eq_some_iff,Prod.mk.injEq] at he
   obtain ⟨cs,hf,rfl,rfl⟩:=he
   obtain ⟨hl,hr⟩:=parts_rel G _ hqs
   obtain ⟨out,hout,hv⟩:=fill_run _ _ _ zv.cells zs cs hzc hl hr hf
   simp only [sizeT,Option.map_eq_some_iff] at hs
   obtain ⟨ei,hei,rfl⟩:=hs
   refine .pure G.rel (v:=.agg out) ?_ (by simp only [vrel];exact ⟨_,rfl,hv⟩)
   unfold execOp;rw [ho]
   simp only [Instr.build,Sem.run_bind,run_zeroValue_of hti hzv,run_underlying_of hu,Result.andThen_ok,run_sizeOf_of hei]
   have:(Array.map (fun x=>match x with | (i,x)=>(i,a.eval x)) ps).toList=ps.toList.map (fun (x:Nat×Operand)=>(x.1,a.eval x.2)):=by rw [Array.toList_map]
   rw [this]
   have hout':Instr.fill (fun i=>some (i*ei.size,ei.size)) zv.cells (ps.toList.map (fun (x:Nat×Operand)=>(x.1,a.eval x.2)))=some out:=hout
   rw [hout']
   rfl
  ·simp at hb
 ·simp at hb
theorem eInfo_of {E:TypeId} {s b:Nat} {z:List AVal} (hi:eInfo P E=some (s,b,z)):∃ zv,EInfo P E s b zv∧vrels h β z zv.cells.toList∧z.all (·.cell)=true:=by
 have _:=G.g
 simp only [eInfo,Option.bind_eq_some_iff] at hi
 obtain ⟨i,hi,zv,hzv,av,hav,hc⟩:=hi
 split at hc
 ·rename_i hcond
  obtain ⟨c1,c2,c3,c4⟩:=hcond
  simp only [Option.some.injEq,Prod.mk.injEq] at hc
  obtain ⟨rfl,rfl,rfl⟩:=hc
  exact ⟨zv,⟨c1,c2,c3,⟨i,hi,rfl,rfl,hzv⟩,c4⟩,(ofZero_vrel hav h β).2.1,(ofZero_vrel hav h β).2.2⟩
 ·simp at hc
 omit G in
theorem elemT_of {t E:TypeId} (hE:elemT P t=some E):P.underlying t=some (.slice E):=by
  unfold elemT at hE
  split at hE
  · simp at hE;subst hE;assumption
  · simp at hE
 omit G in
theorem zeros_vrels {zs : List AVal} {z : Array Value} {s : Nat} (hz : vrels h β zs z.toList) (hs : z.size = s) (hp : 0 < s) (n : Nat) :
    vrels h β ((List.range n).map fun i=>zs.getD (i%s) .undef) (((Array.range n).map fun i=>z[i%z.size]!).toList):=by
  rw [Array.toList_map,Array.toList_range]
  have hl:=vrels_length hz
  induction (List.range n) with
  | nil=>simp [vrels]
  | cons i l ih =>
    simp only [List.map_cons]
    refine vrels_cons_cons.2 ⟨?_,ih⟩
    have hi:i%s<zs.length:=by
      have:=Nat.mod_lt i hp
      simp at hl;omega
    obtain ⟨v,hv,hr⟩:=vrels_get hz (i:=i%s) (List.getElem?_eq_getElem hi)
    have e1:zs.getD (i%s) .undef=zs[i%s]:=by simp [List.getD,List.getElem?_eq_getElem hi]
    rw [e1,hs]
    have e2:z[i%s]! = v:=by
      rw [Array.getElem?_toList] at hv
      simp [getElem!_def,hv]
    rw [e2];exact hr
 omit G in
theorem new_slice (R : Rel h β w) (E : TypeId) {vs : List AVal} {c : Array Value} (n esz : Nat) (hv : vs.length = n * esz) (hr : vrels h β vs c.toList) :
    ∃ β',Rel (h.push (.cells 0 false vs)) β' (w.alloc (.cells c E))∧Ext h β w (h.push (.cells 0 false vs)) β' (w.alloc (.cells c E)) ∧
      vrel (h.push (.cells 0 false vs)) β' (.sl h.n 0 0 n esz) (.slice (some ⟨w.heap.size,0,none⟩) n n):=by
  have hl:=vrels_length hr
  simp at hl
  obtain ⟨R',X⟩:=new_row R E (vs:=vs) (c:=c) vs.length (Nat.le_refl _) (by omega) (by rw [List.take_of_length_le (by simp;omega)];exact hr)
  refine ⟨_,R',X,?_⟩
  simp only [vrel]
  refine ⟨_,n,rfl,by simp,Nat.zero_le _,fun _=>?_⟩
  rw [updP_same]
  exact ⟨Nat.le_refl _,by simp [hv],fun _=>rfl⟩
theorem partsS_rel (s : Nat) : ∀ {ps : List (Nat × Operand)} {qs : List (Nat × AOpd)}, cPartsS P ps = some qs →
    (qs.map fun (i,x)=>(i*s,s,opd e x)).length=(ps.map fun (i,x)=>(i,a.eval x)).length ∧
    ∀ (j i:Nat) (v:Value),(ps.map fun (i,x)=>(i,a.eval x))[j]?=some (i,v)→∃ (o s':Nat) (x:AVal),(qs.map fun (i,x)=>(i*s,s,opd e x))[j]?=some (o,s',x)∧some (i*s,s)=some (o,s')∧(x.cells.all (·.cell)=true→vrels h β x.cells v.cells.toList)
  | [],qs,hq=>by simp [cPartsS] at hq;subst hq;simp
  | (i,x)::ps,qs,hq=>by
    simp only [cPartsS,Option.bind_eq_some_iff,Option.map_eq_some_iff] at hq
    obtain ⟨b,h2,qs',h3,rfl⟩:=hq
    obtain ⟨hl,hr⟩:=partsS_rel s h3
    refine ⟨by simpa using hl,fun j i' v hj=>?_⟩
    cases j with
    | zero =>
      simp only [List.map_cons,List.getElem?_cons_zero,Option.some.injEq,Prod.mk.injEq] at hj ⊢
      obtain ⟨rfl,rfl⟩:=hj
      exact ⟨_,_,_,⟨rfl,rfl,rfl⟩,⟨rfl,rfl⟩,fun hc=>cells_vrels G h2 hc⟩
    | succ j =>
      simp only [List.map_cons,List.getElem?_cons_succ] at hj ⊢
      exact hr j i' v hj
 omit G in
theorem fillP_length:∀ {ps:List (Nat×Nat×AVal)} {cs rs:List AVal},fillP cs ps=some rs→rs.length=cs.length
  | [],cs,rs,hf=>by simp [fillP] at hf;subst hf;rfl
  | (o,s,v)::ps,cs,rs,hf=>by
    simp only [fillP] at hf
    split at hf
    · rename_i hc
      rw [fillP_length hf];simp;omega
    · simp at hf
theorem sim_buildSlice {t E : TypeId} {n s b : Nat} {z : List AVal} {ps : Array (Nat × Operand)} {qs : List (Nat × AOpd)} (ho : o.op = .buildSlice t n ps) (hE : elemT P t = some E) (hi : eInfo P E = some (s, b, z)) (hn : n * s ≤ 16777216)
    (hq:cPartsS P ps.toList=some qs) (he:aop e h (.buildSlice s n z qs)=some (av,h')):Did P o a.eval h β w av h':=by
  simp only [aop,opMov,opPick,opAlloc,opBox,opBuild,opBuildSlice,opLoad,opStore,opNilCheck,opBin,opEql,opUn,opConv,opB2s,opMkIface,opMkFn,opMkMap,opMkSlice,opSlice,opFieldAddr,opField,opIdxS,opIdxA,opIndex,opIndexStr,opLookup,opMapUpd,opAssertT,opExtract,opLenS,opLenT,opLenM,opMin,opMax,opAppend,opCopy,opDelete,Option.map_eq_some_iff,Prod.mk.injEq] at he
  obtain ⟨cs,hf,rfl,rfl⟩:=he
  obtain ⟨zv,hI,hzv,hzc⟩:=eInfo_of G hi
  obtain ⟨hl,hr⟩:=partsS_rel G s hq
  have hz:=zeros_vrels hzv hI.zsize hI.pos (n*s)
  obtain ⟨out,hout,hv⟩:=fill_run (fun i=>some (i*s,s)) _ _ _ _ cs hz hl hr hf
  have hcl:=fillP_length hf
  obtain ⟨β',R',X,hvr⟩:=new_slice G.rel E (c:=out) n s (by rw [hcl];simp) hv
  refine .val ?_ hvr R' X
  obtain ⟨i,hti,hsz,hby,hzz⟩:=hI.info
  unfold execOp;rw [ho]
  simp only [Instr.buildSlice,Sem.run_bind,run_underlying_of (elemT_of hE),Result.andThen_ok,run_sizeOf_of hti,hsz]
  rw [if_neg (by omega)]
  have e3:(Array.map (fun x=>match x with | (i,x)=>(i,a.eval x)) ps).toList=ps.toList.map (fun (x:Nat×Operand)=>(x.1,a.eval x.2)):=by rw [Array.toList_map]
  have hout':Instr.fill (fun i=>some (i*s,s)) (Array.map (fun i=>zv.cells[i%zv.cells.size]!) (Array.range (n*s))) (ps.toList.map (fun (x:Nat×Operand)=>(x.1,a.eval x.2)))=some out:=hout
  by_cases h0:n*s=0
  · simp only [h0,if_true,Sem.run_bind,Sem.run_pure,Result.andThen_ok,e3]
    have e4:(Array.map (fun i=>(#[]:Array Value)[i%(#[]:Array Value).size]!) (Array.range 0))=Array.map (fun i=>zv.cells[i%zv.cells.size]!) (Array.range (n*s)):=by rw [h0];simp
    rw [e4,hout']
    simp only [Sem.run_bind,newRow,run_newObj,Result.andThen_ok,Sem.run_pure]
    rfl
  · simp only [h0,if_false,Sem.run_bind,run_zeroValue_of hti hzz,Sem.run_pure,Result.andThen_ok,e3,hout',newRow,run_newObj]
    rfl
theorem sim_mkSlice {t E : TypeId} {s b : Nat} {z : List AVal} {l c : Operand} {al : AOpd} (ho : o.op = .makeSlice t l c) (hlc : a.eval l = a.eval c) (hE : elemT P t = some E) (hi : eInfo P E = some (s, b, z))
    (hl:cOpd P l=some al) (he:aop e h (.mkSlice s b z al)=some (av,h')):Did P o a.eval h β w av h':=by
  simp only [aop,opMov,opPick,opAlloc,opBox,opBuild,opBuildSlice,opLoad,opStore,opNilCheck,opBin,opEql,opUn,opConv,opB2s,opMkIface,opMkFn,opMkMap,opMkSlice,opSlice,opFieldAddr,opField,opIdxS,opIdxA,opIndex,opIndexStr,opLookup,opMapUpd,opAssertT,opExtract,opLenS,opLenT,opLenM,opMin,opMax,opAppend,opCopy,opDelete] at he
  have rl:=opd_vrel G hl
  split at he
  · rename_i k n hh
    rw [hh] at rl
    simp only [vrel] at rl
    split at he
    · rename_i hc
      obtain ⟨c1,c2,c3⟩:=hc
      simp only [Option.some.injEq,Prod.mk.injEq] at he
      obtain ⟨rfl,rfl⟩:=he
      obtain ⟨zv,hI,hzv,hzc⟩:=eInfo_of G hi
      have hz:=zeros_vrels hzv hI.zsize hI.pos (n.toNat*s)
      obtain ⟨β',R',X,hvr⟩:=new_slice G.rel E n.toNat s (by simp) hz
      refine .val ?_ hvr R' X
      obtain ⟨i,hti,hsz,hby,hzz⟩:=hI.info
      have hbp:=hI.bpos
      have hsp:=hI.pos
      obtain ⟨m,rfl⟩:=Int.eq_ofNat_of_zero_le c1
      simp only [Int.toNat_natCast] at c2 c3 ⊢
      have hm:m≤1099511627776:=Nat.le_trans (Nat.le_mul_of_pos_right m hbp) c2
      have hw:IntKind.i64.wrap (m:Int)=(m:Int):=by simp [IntKind.wrap,IntKind.signed,IntKind.bits];omega
      have hbm:((b:Int)*(m:Int))≤1099511627776:=by
        have h1:b*m≤1099511627776:=by rw [Nat.mul_comm];exact c2
        have h2:((b:Int)*(m:Int))=((b*m:Nat):Int):=by rw [Int.natCast_mul]
        omega
      unfold execOp;rw [ho]
      simp only [Instr.makeSlice,Sem.run_bind,run_underlying_of (elemT_of hE),Result.andThen_ok,rl,←hlc,asInt,asIntOf,Sem.run_pure,run_typeInfo_of hti,hby,hw,run_sizeOf_of hti,hsz,run_askRoom,Int.toNat_natCast]
      rw [if_neg (by simp only [Bool.or_eq_true,decide_eq_true_eq];omega)]
      simp only [Sem.run_bind,run_askRoom,run_sizeOf_of hti,hsz,Result.andThen_ok,Int.toNat_natCast]
      have e5:∀ f:Nat→Value,Array.map f (Array.range 0)=#[]:=by intro f;simp
      by_cases h0:m*s=0
      · simp only [h0,if_true,Sem.run_bind,Sem.run_pure,Result.andThen_ok,run_askRoom,newRow,run_newObj,e5]
        rfl
      · simp only [h0,if_false,Sem.run_bind,Sem.run_pure,Result.andThen_ok,run_askRoom,run_zeroValue_of hti hzz,newRow,run_newObj]
        rfl
    · simp at he
  · simp at he
end
end Go.AM
namespace Go.AM
set_option linter.unusedVariables false
set_option linter.unusedSimpArgs false
section
variable {P:Program} {h h':AHeap} {β:Pl} {w:World} {e:Env} {a:Act} {o:Oper} {av:AVal} (G:Good P h β w e a.tmps)
 include G
theorem sim_bin {op : BinOp} {t u : TypeId} {x y : Operand} {ax ay : AOpd} (ho : o.op = .binOp op t x y u)
    (hx:cOpd P x=some ax) (hy:cOpd P y=some ay) (he:aop e h (.bin op ax ay)=some (av,h')):Did P o a.eval h β w av h':=by
  simp only [aop,opMov,opPick,opAlloc,opBox,opBuild,opBuildSlice,opLoad,opStore,opNilCheck,opBin,opEql,opUn,opConv,opB2s,opMkIface,opMkFn,opMkMap,opMkSlice,opSlice,opFieldAddr,opField,opIdxS,opIdxA,opIndex,opIndexStr,opLookup,opMapUpd,opAssertT,opExtract,opLenS,opLenT,opLenM,opMin,opMax,opAppend,opCopy,opDelete] at he
  have rx:=opd_vrel G hx
  have ry:=opd_vrel G hy
  have key : ∀ (xa ya : Value), a.eval x = xa → a.eval y = ya → binOp op t xa ya = binOp op 0 xa ya → eqGuard op t x y xa ya = Pure.pure () →
      (ofSem (binOp op 0 xa ya)).map (fun v=>(v,h))=some (av,h')→Did P o a.eval h β w av h':=by
    intro xa ya e1 e2 e3 e4 e5
    simp only [Option.map_eq_some_iff,Prod.mk.injEq] at e5
    obtain ⟨v,hs,rfl,rfl⟩:=e5
    obtain ⟨v',hr,hv⟩:=ofSem_run (h:=h) (β:=β) (P:=P) (w:=w) hs
    refine .pure G.rel ?_ hv
    unfold execOp;rw [ho]
    simp only [Sem.run_bind,e1,e2,e3,e4,Sem.run_pure,hr,Result.andThen_ok]
  split at he
  · rename_i k p l q hh1 hh2
    rw [hh1] at rx;rw [hh2] at ry
    simp only [vrel] at rx ry
    refine key _ _ rx ry (by cases op<;>rfl) (by cases op<;>rfl) ?_
    simp only [Option.map_eq_some_iff] at he ⊢
    obtain ⟨v,hv,he⟩:=he
    exact ⟨v,ibin_sem hv,he⟩
  · rename_i p q hh1 hh2
    rw [hh1] at rx;rw [hh2] at ry
    simp only [vrel] at rx ry
    have key2:∀ (v:Value) (v':AVal),vrel h β v' v→Op.stringOp op p q=Pure.pure v→some (v',h)=some (av,h')→Did P o a.eval h β w av h':=by
      intro v v' e1 e2 e3
      simp only [Option.some.injEq,Prod.mk.injEq] at e3
      obtain ⟨rfl,rfl⟩:=e3
      refine .pure G.rel ?_ e1
      unfold execOp;rw [ho]
      have e4:eqGuard op t x y (.string p) (.string q)=Pure.pure ():=by cases op<;>rfl
      have e5:binOp op t (.string p) (.string q)=Op.stringOp op p q:=by cases op<;>rfl
      simp only [Sem.run_bind,rx,ry,e4,e5,e2,Sem.run_pure,Result.andThen_ok]
    have ep:p.toList=p.data.toList:=ByteArray.toList_eq p
    have eq:q.toList=q.data.toList:=ByteArray.toList_eq q
    split at he
    · exact key2 (.bool (p.data.toList==q.data.toList)) _ (by simp [vrel]) (by simp only [Op.stringOp,ep,eq]) he
    · exact key2 (.bool (!(p.data.toList==q.data.toList))) _ (by simp [vrel]) (by simp only [Op.stringOp,ep,eq]) he
    · split at he
      · rename_i hsz
        refine key2 (.string (p++q)) _ ?_ ?_ he
        · simp only [vrel]
          congr 1
        · simp only [Op.stringOp]
          rw [if_neg (by have : IntKind.i64.max = 9223372036854775807 := by decide
                         omega)]
      · simp at he
    · exact key2 (.bool (Op.bytesLess p.data.toList q.data.toList)) _ (by simp [vrel]) (by simp only [Op.stringOp,ep,eq]) he
    · simp at he
  · rename_i k p l q hh1 hh2
    rw [hh1] at rx;rw [hh2] at ry
    simp only [vrel] at rx ry
    obtain ⟨p',rx,ep⟩:=rx
    obtain ⟨q',ry,eq⟩:=ry
    simp only [Option.map_eq_some_iff,Prod.mk.injEq] at he
    obtain ⟨v,hv,rfl,rfl⟩:=he
    unfold fcmpK at hv
    cases hk:fkEq k l with
    | false=>rw [hk] at hv;cases hv
    | true =>
      obtain rfl:=fkEq_ok hk
      rw [hk] at hv
      have hv:fcmp op k p q=some v:=hv
      have e4:eqGuard op t x y (.float k p') (.float k q')=Pure.pure ():=by cases op<;>rfl
      refine .pure (v:=.bool v) G.rel ?_ (by simp [vrel])
      unfold execOp;rw [ho]
      simp only [Sem.run_bind,rx,ry,e4,fcmp_sem ep eq hv,Sem.run_pure,Result.andThen_ok]
  · simp at he
theorem sim_un {op:UnOp} {t:TypeId} {x:Operand} {ax:AOpd} (ho:o.op=.unOp op t x) (hx:cOpd P x=some ax) (he:aop e h (.un op ax)=some (av,h')):Did P o a.eval h β w av h':=by
 simp only [aop,opMov,opPick,opAlloc,opBox,opBuild,opBuildSlice,opLoad,opStore,opNilCheck,opBin,opEql,opUn,opConv,opB2s,opMkIface,opMkFn,opMkMap,opMkSlice,opSlice,opFieldAddr,opField,opIdxS,opIdxA,opIndex,opIndexStr,opLookup,opMapUpd,opAssertT,opExtract,opLenS,opLenT,opLenM,opMin,opMax,opAppend,opCopy,opDelete,Option.bind_eq_some_iff,Option.map_eq_some_iff,Prod.mk.injEq] at he
 obtain ⟨xa,hxa,v,hs,rfl,rfl⟩:=he
 have rx:=lit_vrel hxa (opd_vrel G hx)
 obtain ⟨v',hr,hv⟩:=ofSem_run (h:=h) (β:=β) (P:=P) (w:=w) hs
 refine .pure G.rel ?_ hv
 unfold execOp;rw [ho]
 simp only [Sem.run_bind,rx,hr,Result.andThen_ok,Sem.run_pure]
theorem sim_conv {s d : TypeId} {ks k : IntKind} {x : Operand} {ax : AOpd} (ho : o.op = .convert s d x) (hs : P.underlying s = some (.int ks)) (hd : P.underlying d = some (.int k)) (hx : cOpd P x = some ax)
    (he:aop e h (.conv k ax)=some (av,h')):Did P o a.eval h β w av h':=by
  simp only [aop,opMov,opPick,opAlloc,opBox,opBuild,opBuildSlice,opLoad,opStore,opNilCheck,opBin,opEql,opUn,opConv,opB2s,opMkIface,opMkFn,opMkMap,opMkSlice,opSlice,opFieldAddr,opField,opIdxS,opIdxA,opIndex,opIndexStr,opLookup,opMapUpd,opAssertT,opExtract,opLenS,opLenT,opLenM,opMin,opMax,opAppend,opCopy,opDelete] at he
  have rx:=opd_vrel G hx
  split at he
  · rename_i k' n hh
    have he:(ofSem (Conv.intToInt k n)).map (fun v=>(v,h))=some (av,h'):=by rw [←he,wrapF_eq];rfl
    simp only [Option.map_eq_some_iff,Prod.mk.injEq] at he
    obtain ⟨v,hsm,rfl,rfl⟩:=he
    rw [hh] at rx
    simp only [vrel] at rx
    obtain ⟨v',hr,hv⟩:=ofSem_run (h:=h) (β:=β) (P:=P) (w:=w) hsm
    refine .pure G.rel ?_ hv
    unfold execOp;rw [ho]
    simp only [convert,Sem.run_bind,rx,run_underlying_of hs,run_underlying_of hd,Result.andThen_ok,hr,Sem.run_pure]
  · simp at he
theorem sim_mkIface {t : TypeId} {d : TypeDesc} {x : Operand} {ax : AOpd} (ho : o.op = .makeInterface t x) (hd : P.underlying t = some d) (hi : ∀ ms, d ≠ .interface ms) (hx : cOpd P x = some ax)
    (he:aop e h (.mkIface t ax)=some (av,h')):Did P o a.eval h β w av h':=by
  simp only [aop,opMov,opPick,opAlloc,opBox,opBuild,opBuildSlice,opLoad,opStore,opNilCheck,opBin,opEql,opUn,opConv,opB2s,opMkIface,opMkFn,opMkMap,opMkSlice,opSlice,opFieldAddr,opField,opIdxS,opIdxA,opIndex,opIndexStr,opLookup,opMapUpd,opAssertT,opExtract,opLenS,opLenT,opLenM,opMin,opMax,opAppend,opCopy,opDelete,Option.some.injEq,Prod.mk.injEq] at he
  obtain ⟨rfl,rfl⟩:=he
  refine .pure G.rel (v:=.iface t (a.eval x)) ?_ (by simp only [vrel];exact ⟨_,rfl,opd_vrel G hx⟩)
  unfold execOp;rw [ho]
  simp only [Instr.makeInterface,Sem.run_bind,run_underlying_of hd,Result.andThen_ok]
  cases d<;>first | exact absurd rfl (hi _) | rfl
theorem sim_mkFn {f : Fn} {x y : Array Operand} {ax ay : List AOpd} (ho : o.op = .makeFunc f x y) (hx : cOpds P x.toList = some ax) (hy : cOpds P y.toList = some ay)
    (he:aop e h (.mkFn f ax ay)=some (av,h')):Did P o a.eval h β w av h':=by
  simp only [aop,opMov,opPick,opAlloc,opBox,opBuild,opBuildSlice,opLoad,opStore,opNilCheck,opBin,opEql,opUn,opConv,opB2s,opMkIface,opMkFn,opMkMap,opMkSlice,opSlice,opFieldAddr,opField,opIdxS,opIdxA,opIndex,opIndexStr,opLookup,opMapUpd,opAssertT,opExtract,opLenS,opLenT,opLenM,opMin,opMax,opAppend,opCopy,opDelete,Option.some.injEq,Prod.mk.injEq] at he
  obtain ⟨rfl,rfl⟩:=he
  refine .pure G.rel (v:=.func f (x.map a.eval) (y.map a.eval)) ?_ (by simp only [vrel];exact ⟨_,_,rfl,by rw [Array.toList_map];exact opds_vrels G hx,by rw [Array.toList_map];exact opds_vrels G hy⟩)
  unfold execOp;rw [ho]
  simp [Instr.makeFunc]
theorem sim_mkMap {t k v:TypeId} (ho:o.op=.makeMap t none) (ht:P.underlying t=some (.map k v)) (he:aop e h .mkMap=some (av,h')):Did P o a.eval h β w av h':=by
 simp only [aop,opMov,opPick,opAlloc,opBox,opBuild,opBuildSlice,opLoad,opStore,opNilCheck,opBin,opEql,opUn,opConv,opB2s,opMkIface,opMkFn,opMkMap,opMkSlice,opSlice,opFieldAddr,opField,opIdxS,opIdxA,opIndex,opIndexStr,opLookup,opMapUpd,opAssertT,opExtract,opLenS,opLenT,opLenM,opMin,opMax,opAppend,opCopy,opDelete,Option.some.injEq,Prod.mk.injEq] at he
 obtain ⟨rfl,rfl⟩:=he
 obtain ⟨R',X⟩:=Rel.new (w':=w.alloc (.map #[] 0)) G.rel (o:=.map []) (l:=⟨w.heap.size,0,0⟩) (fun _=>Nat.le_refl _) (by simp) (fun b hb=>by show (w.heap.push _)[b]?=_;rw [Array.getElem?_push,if_neg (by omega)]) rfl rfl (frozen_alloc_map w _ _)
  (fun _=>⟨#[],0,by show (w.heap.push _)[w.heap.size]?=_;exact Array.getElem?_push_size,by simp [erel,vrels]⟩)
 refine .val (v:=.map (some w.heap.size)) ?_ ?_ R' X
 ·unfold execOp;rw [ho]
  simp only [Instr.makeMap,Option.map_none]
  first | rfl | (simp [run_underlying_of ht];rfl)
 ·simp only [vrel]
  exact ⟨_,rfl,by simp,fun _=>by rw [updP_same]⟩
theorem part_run {t : TypeId} {n : Option Nat} (hn : aggN P t = some n) {cs : List AVal} {vs : Array Value} (hr : vrels h β cs vs.toList) {off : Nat} {av : AVal}
    (he:partA n cs off=some av):∃ v,(part t vs off).run P w=.ok v w∧vrel h β av v:=by
  have _:=G.g
  simp only [aggN,isAggT,Option.bind_eq_some_iff,Option.map_eq_some_iff] at hn
  obtain ⟨b,⟨d,hd,hb⟩,hn⟩:=hn
  have hagg:(isAgg t).run P w=.ok b w:=by
    unfold isAgg
    simp only [Sem.run_bind,run_underlying_of hd,Result.andThen_ok]
    subst hb
    cases d<;>rfl
  cases n with
  | none =>
    have hbf:b=false:=by
      cases b
      · rfl
      · rw [if_pos rfl] at hn;simp only [Option.map_eq_some_iff] at hn;obtain ⟨_,_,h2⟩:=hn;cases h2
    subst hbf
    obtain ⟨v,hv,hrv⟩:=vrels_get hr he
    refine ⟨v,?_,hrv⟩
    rw [Array.getElem?_toList] at hv
    simp [part,hagg,hv]
  | some n =>
    have hbt:b=true∧sizeT P t=some n:=by
      cases b
      · simp at hn
      · rw [if_pos rfl] at hn;simp only [Option.map_eq_some_iff] at hn;obtain ⟨k,h1,h2⟩:=hn;cases h2;exact ⟨rfl,h1⟩
    obtain ⟨rfl,hsz⟩:=hbt
    simp only [sizeT,Option.map_eq_some_iff] at hsz
    obtain ⟨ti,hti,hsz⟩:=hsz
    simp only [partA] at he
    split at he
    · simp only [Option.some.injEq] at he
      subst he
      refine ⟨.agg (vs.extract off (off+n)),by simp [part,hagg,run_sizeOf_of hti,hsz],?_⟩
      simp only [vrel]
      refine ⟨_,rfl,?_⟩
      have:(vs.extract off (off+n)).toList=(vs.toList.drop off).take n:=by
        simp [Array.toList_extract]
      rw [this]
      exact vrels_take n (vrels_drop off hr)
    · simp at he
theorem sim_field {t : TypeId} {x : Operand} {i : Nat} {f : Field} {n : Option Nat} {ax : AOpd} (ho : o.op = .field t x i) (hf : structField P t i = some f) (hn : aggN P f.type = some n) (hx : cOpd P x = some ax)
    (he:aop e h (.field f.offset n ax)=some (av,h')):Did P o a.eval h β w av h':=by
  simp only [aop,opMov,opPick,opAlloc,opBox,opBuild,opBuildSlice,opLoad,opStore,opNilCheck,opBin,opEql,opUn,opConv,opB2s,opMkIface,opMkFn,opMkMap,opMkSlice,opSlice,opFieldAddr,opField,opIdxS,opIdxA,opIndex,opIndexStr,opLookup,opMapUpd,opAssertT,opExtract,opLenS,opLenT,opLenM,opMin,opMax,opAppend,opCopy,opDelete] at he
  have rx:=opd_vrel G hx
  split at he
  · rename_i cs hh
    rw [hh] at rx
    simp only [vrel] at rx
    obtain ⟨vs,ev,hr⟩:=rx
    simp only [Option.map_eq_some_iff,Prod.mk.injEq] at he
    obtain ⟨v0,he',rfl,rfl⟩:=he
    obtain ⟨v,hv,hrv⟩:=part_run (w:=w) G hn hr he'
    simp only [structField] at hf
    split at hf
    · rename_i fs hu
      refine .pure G.rel (v:=v) ?_ hrv
      unfold execOp;rw [ho]
      simp [Instr.field,run_underlying_of hu,hf,ev,asAgg,hv]
    · simp at hf
  · simp at he
theorem sim_idxS {t E : TypeId} {s : Nat} {x y : Operand} {ax ay : AOpd} (ho : o.op = .indexAddr t x y) (ht : P.underlying t = some (.slice E)) (hs : sizeT P E = some (s + 1)) (hx : cOpd P x = some ax) (hy : cOpd P y = some ay)
    (he:aop e h (.idxS (s+1) ax ay)=some (av,h')):Did P o a.eval h β w av h':=by
  simp only [aop,opMov,opPick,opAlloc,opBox,opBuild,opBuildSlice,opLoad,opStore,opNilCheck,opBin,opEql,opUn,opConv,opB2s,opMkIface,opMkFn,opMkMap,opMkSlice,opSlice,opFieldAddr,opField,opIdxS,opIdxA,opIndex,opIndexStr,opLookup,opMapUpd,opAssertT,opExtract,opLenS,opLenT,opLenM,opMin,opMax,opAppend,opCopy,opDelete] at he
  have rx:=opd_vrel G hx
  have ry:=opd_vrel G hy
  split at he
  · rename_i id g off len es k n hh1 hh2
    split at he
    · rename_i hc
      obtain ⟨c1,c2,rfl,c4⟩:=hc
      simp only [Option.some.injEq,Prod.mk.injEq] at he
      obtain ⟨rfl,rfl⟩:=he
      rw [hh1] at rx
      rw [hh2] at ry
      simp only [vrel] at rx ry
      obtain ⟨ad,cap,ev,hs1,hs2,hs3⟩:=rx
      obtain ⟨h1,h2,h3⟩:=hs3 c4
      have ha:=h3 (by omega)
      subst ha
      simp only [sizeT,Option.map_eq_some_iff] at hs
      obtain ⟨ti,hti,hsz⟩:=hs
      refine .pure G.rel (v:=.pointer (some ((⟨(β id).b,(β id).o+off,none⟩:Addr).add (n.toNat*(s+1))))) ?_ ?_
      · unfold execOp;rw [ho]
        simp only [Instr.indexAt,Sem.run_bind,ev,ry,asIntOf,Sem.run_pure,Result.andThen_ok,run_underlying_of ht,c1,c2,and_self,if_true,run_sizeOf_of hti,hsz]
      · simp only [vrel]
        exact ⟨_,rfl,hs1,hs2,fun _=>by rw [addr_add,Nat.add_assoc]⟩
    · simp at he
  · simp at he
theorem sim_idxA {t E : TypeId} {s len : Nat} {x y : Operand} {ax ay : AOpd} (ho : o.op = .indexAddr t x y) (ht : P.underlying t = some (.array len E)) (hs : sizeT P E = some (s + 1)) (hx : cOpd P x = some ax) (hy : cOpd P y = some ay)
    (he:aop e h (.idxA (s+1) len ax ay)=some (av,h')):Did P o a.eval h β w av h':=by
  simp only [aop,opMov,opPick,opAlloc,opBox,opBuild,opBuildSlice,opLoad,opStore,opNilCheck,opBin,opEql,opUn,opConv,opB2s,opMkIface,opMkFn,opMkMap,opMkSlice,opSlice,opFieldAddr,opField,opIdxS,opIdxA,opIndex,opIndexStr,opLookup,opMapUpd,opAssertT,opExtract,opLenS,opLenT,opLenM,opMin,opMax,opAppend,opCopy,opDelete] at he
  have rx:=opd_vrel G hx
  have ry:=opd_vrel G hy
  split at he
  · rename_i id g off k n hh1 hh2
    split at he
    · rename_i hc
      obtain ⟨c1,c2⟩:=hc
      simp only [Option.some.injEq,Prod.mk.injEq] at he
      obtain ⟨rfl,rfl⟩:=he
      rw [hh1] at rx
      rw [hh2] at ry
      simp only [vrel] at rx ry
      obtain ⟨ad,ev,hs1,hs2,hs3⟩:=rx
      simp only [sizeT,Option.map_eq_some_iff] at hs
      obtain ⟨ti,hti,hsz⟩:=hs
      refine .pure G.rel (v:=.pointer (some (ad.add (n.toNat*(s+1))))) ?_ ?_
      · unfold execOp;rw [ho]
        simp only [Instr.indexAt,Sem.run_bind,ev,ry,asIntOf,Sem.run_pure,Result.andThen_ok,run_underlying_of ht,Instr.sureAddr,c1,c2,and_self,if_true,run_sizeOf_of hti,hsz]
      · simp only [vrel]
        exact ⟨_,rfl,hs1,hs2,fun eg=>by rw [hs3 eg,addr_add,Nat.add_assoc]⟩
    · simp at he
  · simp at he
theorem sim_index {t E : TypeId} {s len : Nat} {m : Option Nat} {x y : Operand} {ax ay : AOpd} (ho : o.op = .index t x y) (ht : P.underlying t = some (.array len E)) (hs : sizeT P E = some s) (hm : aggN P E = some m) (hx : cOpd P x = some ax) (hy : cOpd P y = some ay)
    (he:aop e h (.index s len m ax ay)=some (av,h')):Did P o a.eval h β w av h':=by
  simp only [aop,opMov,opPick,opAlloc,opBox,opBuild,opBuildSlice,opLoad,opStore,opNilCheck,opBin,opEql,opUn,opConv,opB2s,opMkIface,opMkFn,opMkMap,opMkSlice,opSlice,opFieldAddr,opField,opIdxS,opIdxA,opIndex,opIndexStr,opLookup,opMapUpd,opAssertT,opExtract,opLenS,opLenT,opLenM,opMin,opMax,opAppend,opCopy,opDelete] at he
  have rx:=opd_vrel G hx
  have ry:=opd_vrel G hy
  split at he
  · rename_i cs k n hh1 hh2
    split at he
    · rename_i hc
      obtain ⟨c1,c2⟩:=hc
      rw [hh1] at rx
      rw [hh2] at ry
      simp only [vrel] at rx ry
      obtain ⟨vs,ev,hr⟩:=rx
      simp only [Option.map_eq_some_iff,Prod.mk.injEq] at he
      obtain ⟨v0,he',rfl,rfl⟩:=he
      obtain ⟨v,hv,hrv⟩:=part_run (w:=w) G hm hr he'
      simp only [sizeT,Option.map_eq_some_iff] at hs
      obtain ⟨ti,hti,hsz⟩:=hs
      refine .pure G.rel (v:=v) ?_ hrv
      unfold execOp;rw [ho]
      simp only [Instr.index,Sem.run_bind,ev,ry,asIntOf,Sem.run_pure,Result.andThen_ok,run_underlying_of ht,c1,c2,and_self,if_true,run_sizeOf_of hti,hsz,hv]
    · simp at he
  · simp at he
theorem sim_indexStr {t : TypeId} {x y : Operand} {ax ay : AOpd} (ho : o.op = .index t x y) (ht : P.underlying t = some .string) (hx : cOpd P x = some ax) (hy : cOpd P y = some ay)
    (he:aop e h (.indexStr ax ay)=some (av,h')):Did P o a.eval h β w av h':=by
  simp only [aop,opMov,opPick,opAlloc,opBox,opBuild,opBuildSlice,opLoad,opStore,opNilCheck,opBin,opEql,opUn,opConv,opB2s,opMkIface,opMkFn,opMkMap,opMkSlice,opSlice,opFieldAddr,opField,opIdxS,opIdxA,opIndex,opIndexStr,opLookup,opMapUpd,opAssertT,opExtract,opLenS,opLenT,opLenM,opMin,opMax,opAppend,opCopy,opDelete] at he
  have rx:=opd_vrel G hx
  have ry:=opd_vrel G hy
  split at he
  · rename_i s k n hh1 hh2
    split at he
    · rename_i c1
      rw [hh1] at rx
      rw [hh2] at ry
      simp only [vrel] at rx ry
      simp only [Option.map_eq_some_iff,Prod.mk.injEq] at he
      obtain ⟨b,hb,rfl,rfl⟩:=he
      refine .pure G.rel (v:=.int .u8 b.toNat) ?_ (by simp [vrel])
      unfold execOp;rw [ho]
      simp only [Instr.index,Sem.run_bind,rx,ry,asIntOf,Sem.run_pure,Result.andThen_ok,run_underlying_of ht,c1,if_true,hb]
    · simp at he
  · simp at he
theorem sim_extract {x:Operand} {i:Nat} {ax:AOpd} (ho:o.op=.extract x i) (hx:cOpd P x=some ax) (he:aop e h (.extract ax i)=some (av,h')):Did P o a.eval h β w av h':=by
 simp only [aop,opMov,opPick,opAlloc,opBox,opBuild,opBuildSlice,opLoad,opStore,opNilCheck,opBin,opEql,opUn,opConv,opB2s,opMkIface,opMkFn,opMkMap,opMkSlice,opSlice,opFieldAddr,opField,opIdxS,opIdxA,opIndex,opIndexStr,opLookup,opMapUpd,opAssertT,opExtract,opLenS,opLenT,opLenM,opMin,opMax,opAppend,opCopy,opDelete] at he
 have rx:=opd_vrel G hx
 split at he
 ·rename_i vs hh
  simp only [Option.map_eq_some_iff,Prod.mk.injEq] at he
  obtain ⟨v,hv,rfl,rfl⟩:=he
  rw [hh] at rx
  simp only [vrel] at rx
  obtain ⟨xs,ev,hr⟩:=rx
  obtain ⟨v',hv',hrv⟩:=vrels_get hr hv
  rw [Array.getElem?_toList] at hv'
  refine .pure G.rel (v:=v') ?_ hrv
  unfold execOp;rw [ho]
  simp [Instr.extract,ev,hv']
 ·simp at he
theorem sim_assertT {x : Operand} {xt t : TypeId} {d : TypeDesc} {ok : Bool} {z : AVal} {ax : AOpd} (ho : o.op = .typeAssert x xt t ok) (hd : P.underlying t = some d) (hi : ∀ ms, d ≠ .interface ms) (hz : zeroT P t = some z) (hx : cOpd P x = some ax)
    (he:aop e h (.assertT t ok z ax)=some (av,h')):Did P o a.eval h β w av h':=by
  simp only [aop,opMov,opPick,opAlloc,opBox,opBuild,opBuildSlice,opLoad,opStore,opNilCheck,opBin,opEql,opUn,opConv,opB2s,opMkIface,opMkFn,opMkMap,opMkSlice,opSlice,opFieldAddr,opField,opIdxS,opIdxA,opIndex,opIndexStr,opLookup,opMapUpd,opAssertT,opExtract,opLenS,opLenT,opLenM,opMin,opMax,opAppend,opCopy,opDelete] at he
  have rx:=opd_vrel G hx
  simp only [zeroT,Option.bind_eq_some_iff] at hz
  obtain ⟨ti,hti,zv,hzv,hz⟩:=hz
  have hzr:=(ofZero_vrel hz h β).1
  split at he
  · rename_i t' v hh
    rw [hh] at rx
    simp only [vrel] at rx
    obtain ⟨v',ev,hr⟩:=rx
    split at he
    · rename_i ht
      subst ht
      simp only [Option.some.injEq,Prod.mk.injEq] at he
      obtain ⟨rfl,rfl⟩:=he
      refine .pure G.rel (v:=if ok then .tuple #[v',.bool true] else v') ?_ ?_
      · unfold execOp;rw [ho]
        simp only [Instr.typeAssert,Sem.run_bind,ev,run_underlying_of hd,Result.andThen_ok]
        cases d<;>first | exact absurd rfl (hi _) | simp
      · cases ok
        · exact hr
        · simp only [if_true,vrel];exact ⟨_,rfl,by simp only [vrels];exact ⟨_,_,rfl,hr,_,_,rfl,by simp [vrel],rfl⟩⟩
    · rename_i ht
      split at he
      · rename_i hok
        simp only [Option.some.injEq,Prod.mk.injEq] at he
        obtain ⟨rfl,rfl⟩:=he
        refine .pure G.rel (v:=.tuple #[zv,.bool false]) ?_ ?_
        · unfold execOp;rw [ho]
          simp only [Instr.typeAssert,Sem.run_bind,ev,run_underlying_of hd,Result.andThen_ok]
          cases d<;>first | exact absurd rfl (hi _) | simp [ht,hok,run_zeroValue_of hti hzv]
        · simp only [vrel];exact ⟨_,rfl,by simp only [vrels];exact ⟨_,_,rfl,hzr,_,_,rfl,by simp [vrel],rfl⟩⟩
      · simp at he
  · rename_i hh
    rw [hh] at rx
    simp only [vrel] at rx
    split at he
    · rename_i hok
      simp only [Option.some.injEq,Prod.mk.injEq] at he
      obtain ⟨rfl,rfl⟩:=he
      refine .pure G.rel (v:=.tuple #[zv,.bool false]) ?_ ?_
      · unfold execOp;rw [ho]
        simp only [Instr.typeAssert,Sem.run_bind,rx,run_underlying_of hd,Result.andThen_ok]
        cases d<;>first | exact absurd rfl (hi _) | simp [hok,run_zeroValue_of hti hzv]
      · simp only [vrel];exact ⟨_,rfl,by simp only [vrels];exact ⟨_,_,rfl,hzr,_,_,rfl,by simp [vrel],rfl⟩⟩
    · simp at he
  · simp at he
theorem sim_slice {t E : TypeId} {s : Nat} {x : Operand} {lo hi : Option Operand} {ax : AOpd} {al ah : Option AOpd} (ho : o.op = .slice t x lo hi none) (ht : P.underlying t = some (.slice E)) (hs : sizeT P E = some s) (hx : cOpd P x = some ax)
    (hl:cOpt P lo=some al) (hh:cOpt P hi=some ah) (he:aop e h (.slice s ax al ah)=some (av,h')):Did P o a.eval h β w av h':=by
  have rx:=opd_vrel G hx
  simp only [sizeT,Option.map_eq_some_iff] at hs
  obtain ⟨ti,hti,hsz⟩:=hs
  simp only [aop,opMov,opPick,opAlloc,opBox,opBuild,opBuildSlice,opLoad,opStore,opNilCheck,opBin,opEql,opUn,opConv,opB2s,opMkIface,opMkFn,opMkMap,opMkSlice,opSlice,opFieldAddr,opField,opIdxS,opIdxA,opIndex,opIndexStr,opLookup,opMapUpd,opAssertT,opExtract,opLenS,opLenT,opLenM,opMin,opMax,opAppend,opCopy,opDelete] at he
  have hlo : ∀ l, (match optOpd e al with | none => some 0 | some (.int _ n) => if 0 ≤ n then some n.toNat else none | _ => none) = some l → ∀ y : Nat, l ≤ y → ∀ c : BoundsCode,
      (match lo.map a.eval with | some v=>Instr.sliceBound v y c | none=>Pure.pure 0).run P w=.ok l w:=by
    intro l hq y hy c
    cases lo with
    | none =>
      simp [cOpt] at hl;subst hl
      simp only [optOpd,Option.some.injEq] at hq
      subst hq;rfl
    | some lo =>
      simp only [cOpt,Option.map_eq_some_iff] at hl
      obtain ⟨b,hb,rfl⟩:=hl
      have rl:=opd_vrel G hb
      simp only [optOpd] at hq
      split at hq
      · rename_i heq;cases heq
      · rename_i k n heq
        simp only [Option.some.injEq] at heq
        rw [heq] at rl
        simp only [vrel] at rl
        split at hq
        · rename_i h0
          simp only [Option.some.injEq] at hq
          simp only [Option.map_some,rl,Instr.sliceBound,Sem.run_bind,asIntOf,Sem.run_pure,Result.andThen_ok]
          rw [if_pos ⟨h0,by omega⟩,Sem.run_pure,hq]
        · simp at hq
      · simp at hq
  have hhi : ∀ (len r : Nat), (match optOpd e ah with | none => some len | some (.int _ n) => if 0 ≤ n then some n.toNat else none | _ => none) = some r → ∀ y : Nat, r ≤ y → ∀ c : BoundsCode,
      (match hi.map a.eval with | some v=>Instr.sliceBound v y c | none=>Pure.pure len).run P w=.ok r w:=by
    intro len r hq y hy c
    cases hi with
    | none =>
      simp [cOpt] at hh;subst hh
      simp only [optOpd,Option.some.injEq] at hq
      subst hq;rfl
    | some hi =>
      simp only [cOpt,Option.map_eq_some_iff] at hh
      obtain ⟨b,hb,rfl⟩:=hh
      have rl:=opd_vrel G hb
      simp only [optOpd] at hq
      split at hq
      · rename_i heq;cases heq
      · rename_i k n heq
        simp only [Option.some.injEq] at heq
        rw [heq] at rl
        simp only [vrel] at rl
        split at hq
        · rename_i h0
          simp only [Option.some.injEq] at hq
          simp only [Option.map_some,rl,Instr.sliceBound,Sem.run_bind,asIntOf,Sem.run_pure,Result.andThen_ok]
          rw [if_pos ⟨h0,by omega⟩,Sem.run_pure,hq]
        · simp at hq
      · simp at hq
  have hb : ∀ (len cap l r : Nat), (match optOpd e al with | none => some 0 | some (.int _ n) => if 0 ≤ n then some n.toNat else none | _ => none) = some l →
      (match optOpd e ah with | none=>some len | some (.int _ n)=>if 0≤n then some n.toNat else none | _=>none)=some r→l≤r→r≤cap →
      (Instr.sliceBounds true len cap (lo.map a.eval) (hi.map a.eval) none).run P w=.ok (l,r,cap) w:=by
    intro len cap l r h1 h2 h3 h4
    have e1:=hlo l h1 r h3 .sliceB
    have e2:=hhi len r h2 cap h4 .sliceAcap
    simp only [Instr.sliceBounds]
    cases lo<;>cases hi<;>simp only [Option.map_none,Option.map_some,Sem.run_bind,Sem.run_pure,Result.andThen_ok,Option.isSome_none,Bool.false_eq_true,if_false,if_true] at e1 e2 ⊢
    · simp only [Result.ok.injEq,and_true] at e1 e2;subst e1;subst e2;rfl
    · simp only [Result.ok.injEq,and_true] at e1;rw [e2];subst e1;rfl
    · simp only [Result.ok.injEq,and_true] at e2;subst e2;rw [e1];rfl
    · rw [e2,Result.andThen_ok,e1];rfl
  split at he
  ·
    rename_i hxx
    simp only [Option.bind_eq_some_iff] at he
    obtain ⟨l,hl1,r,hr1,he⟩:=he
    split at he
    · rename_i hc
      obtain ⟨rfl,rfl⟩:=hc
      simp only [Option.some.injEq,Prod.mk.injEq] at he
      obtain ⟨rfl,rfl⟩:=he
      rw [hxx] at rx
      simp only [vrel] at rx
      refine .pure G.rel (v:=.slice none 0 0) ?_ (by simp [vrel])
      have:=hb 0 0 0 0 hl1 hr1 (Nat.le_refl _) (Nat.le_refl _)
      unfold execOp;rw [ho]
      simp only [Instr.sliceAt,Instr.slice,Sem.run_bind,run_underlying_of ht,Result.andThen_ok,rx,Option.map_none,this,run_sizeOf_of hti,if_true,Sem.run_pure,Nat.sub_zero]
    · simp at he
  · rename_i id g off len es hxx
    simp only [Option.bind_eq_some_iff] at he
    obtain ⟨l,hl1,r,hr1,he⟩:=he
    split at he
    · rename_i hc
      obtain ⟨c1,c2,rfl,c4⟩:=hc
      simp only [Option.some.injEq,Prod.mk.injEq] at he
      obtain ⟨rfl,rfl⟩:=he
      rw [hxx] at rx
      simp only [vrel] at rx
      obtain ⟨ad,cap,ev,hs1,hs2,hs3⟩:=rx
      obtain ⟨h1,h2,h3⟩:=hs3 c4
      have:=hb len cap l r hl1 hr1 c1 (by omega)
      refine .pure G.rel (v:=.slice (if cap=l then some ad else (some ad).map (·.add (l*es))) (r-l) (cap-l)) ?_ ?_
      · unfold execOp;rw [ho]
        simp only [Instr.sliceAt,Instr.slice,Sem.run_bind,run_underlying_of ht,Result.andThen_ok,ev,Option.map_none,this,run_sizeOf_of hti,hsz,Sem.run_pure]
      · simp only [vrel]
        by_cases hcl:cap=l
        · rw [if_pos hcl]
          exact ⟨ad,cap-l,rfl,hs1,hs2,fun _=>⟨by omega,by
            have:(cap-l)*es=0:=by rw [hcl,Nat.sub_self,Nat.zero_mul]
            rw [this,←hcl];omega,fun h0=>by omega⟩⟩
        · rw [if_neg hcl]
          have hlt:l<cap:=by omega
          have ha:=h3 (by omega)
          subst ha
          refine ⟨_,cap-l,rfl,hs1,hs2,fun _=>⟨by omega,?_,fun _=>?_⟩⟩
          · have:l*es+(cap-l)*es=cap*es:=by rw [←Nat.add_mul];congr 1;omega
            omega
          · show (⟨(β id).b,(β id).o+off,none⟩:Addr).add (l*es)=_
            rw [addr_add,Nat.add_assoc]
    · simp at he
  · simp at he
end
end Go.AM
namespace Go.AM
set_option linter.unusedVariables false
set_option linter.unusedSimpArgs false
theorem litK_run {P : Program} {w : World} {h : AHeap} {β : Pl} {t : TypeId} {k : LK} (hk : litK P t = some k) {x y : AVal} {xv yv : Value} {b : Bool} (e : litEq k x y = some b) (rx : vrel h β x xv) (ry : vrel h β y yv) (d : Nat) :
    (Op.equalIn (d+1) t xv yv).run P w=.ok b w∧(isAgg t).run P w=.ok false w:=by
  unfold litK at hk
  unfold litEq at e
  split at e
  · rename_i k1 a k2 c
    split at e
    · rename_i hkk
      subst hkk
      simp only [Option.some.injEq] at e
      subst e
      simp only [vrel] at rx ry
      subst rx;subst ry
      split at hk
      · rename_i q hu
        exact ⟨run_equalIn_int w d t _ q _ _ hu,by simp [isAgg,run_underlying_of hu]⟩
      · simp at hk
      · simp at hk
      · simp at hk
    · simp at e
  · simp only [Option.some.injEq] at e
    subst e
    simp only [vrel] at rx ry
    subst rx;subst ry
    split at hk
    · simp at hk
    · rename_i hu
      exact ⟨run_equalIn_bool' w d t _ _ hu,by simp [isAgg,run_underlying_of hu]⟩
    · simp at hk
    · simp at hk
  · rename_i p q
    simp only [Option.some.injEq] at e
    subst e
    simp only [vrel] at rx ry
    subst rx;subst ry
    split at hk
    · simp at hk
    · simp at hk
    · rename_i hu
      refine ⟨?_,by simp [isAgg,run_underlying_of hu]⟩
      rw [run_equalIn_string w d t _ _ hu,ByteArray.toList_eq p,ByteArray.toList_eq q]
    · simp at hk
  · simp at e
theorem eqFields_run {P : Program} {w : World} {h : AHeap} {β : Pl} (d : Nat) {X Y : Array Value} : ∀ {fs : List Field} {k : Nat} {ks : List LK} {xs ys : List AVal} {b : Bool}, flatFields P fs k = some ks →
    litEqs ks xs ys=some b→vrels h β xs (X.toList.drop k)→vrels h β ys (Y.toList.drop k)→(Op.eqFields (d+1) X Y fs).run P w=.ok b w
  | [],k,ks,xs,ys,b,hf,e,rx,ry=>by
    simp only [flatFields,Option.some.injEq] at hf
    subst hf
    cases xs<;>cases ys<;>simp [litEqs] at e
    subst e;rfl
  | f::fs,k,ks,xs,ys,b,hf,e,rx,ry=>by
    simp only [flatFields] at hf
    split at hf
    · rename_i hc
      simp only [Bool.and_eq_true,bne_iff_ne,ne_eq,beq_iff_eq] at hc
      simp only [Option.bind_eq_some_iff,Option.map_eq_some_iff] at hf
      obtain ⟨l,hl,ks',hk',rfl⟩:=hf
      cases xs with
      | nil=>simp [litEqs] at e
      | cons x xs =>
        cases ys with
        | nil=>simp [litEqs] at e
        | cons y ys =>
          simp only [litEqs,Option.bind_eq_some_iff,Option.map_eq_some_iff] at e
          obtain ⟨b1,e1,b2,e2,rfl⟩:=e
          obtain ⟨xv,xw,ex,rx1,rx2⟩:=vrels_cons.1 rx
          obtain ⟨yv,yw,ey,ry1,ry2⟩:=vrels_cons.1 ry
          obtain ⟨q1,q2⟩:=litK_run (w:=w) hl e1 rx1 ry1 d
          have gx:X[k]?=some xv:=by
            have:(X.toList.drop k)[0]?=some xv:=by rw [ex];rfl
            simpa [List.getElem?_drop] using this
          have gy:Y[k]?=some yv:=by
            have:(Y.toList.drop k)[0]?=some yv:=by rw [ey];rfl
            simpa [List.getElem?_drop] using this
          have dx:X.toList.drop (k+1)=xw:=by rw [←List.drop_drop,ex];rfl
          have dy:Y.toList.drop (k+1)=yw:=by rw [←List.drop_drop,ey];rfl
          simp only [Op.eqFields]
          rw [if_pos hc.1]
          simp only [Sem.run_bind,part,q2,Result.andThen_ok,Bool.false_eq_true,if_false,hc.2,gx,gy,Sem.run_pure,q1,Sem.run_ite]
          cases b1
          · simp
          · simp only [Bool.not_true,Bool.false_eq_true,if_false,Bool.true_and]
            exact eqFields_run d hk' e2 (by rw [dx];exact rx2) (by rw [dy];exact ry2)
    · simp at hf
theorem eqItems_run {P : Program} {w : World} {h : AHeap} {β : Pl} (d : Nat) {E : TypeId} {l : LK} (hl : litK P E = some l) {X Y : Array Value} : ∀ (n k : Nat) {xs ys : List AVal} {b : Bool},
    litEqs (List.replicate n l) xs ys=some b→vrels h β xs (X.toList.drop k)→vrels h β ys (Y.toList.drop k)→(Op.eqItems (d+1) E 1 X Y (List.range' k n)).run P w=.ok b w
  | 0,k,xs,ys,b,e,rx,ry=>by
    cases xs<;>cases ys<;>simp [litEqs] at e
    subst e;rfl
  | n+1,k,xs,ys,b,e,rx,ry=>by
    rw [List.replicate_succ] at e
    cases xs with
    | nil=>simp [litEqs] at e
    | cons x xs =>
      cases ys with
      | nil=>simp [litEqs] at e
      | cons y ys =>
        simp only [litEqs,Option.bind_eq_some_iff,Option.map_eq_some_iff] at e
        obtain ⟨b1,e1,b2,e2,rfl⟩:=e
        obtain ⟨xv,xw,ex,rx1,rx2⟩:=vrels_cons.1 rx
        obtain ⟨yv,yw,ey,ry1,ry2⟩:=vrels_cons.1 ry
        obtain ⟨q1,q2⟩:=litK_run (w:=w) hl e1 rx1 ry1 d
        have gx:X[k]?=some xv:=by
          have:(X.toList.drop k)[0]?=some xv:=by rw [ex];rfl
          simpa [List.getElem?_drop] using this
        have gy:Y[k]?=some yv:=by
          have:(Y.toList.drop k)[0]?=some yv:=by rw [ey];rfl
          simpa [List.getElem?_drop] using this
        have dx:X.toList.drop (k+1)=xw:=by rw [←List.drop_drop,ex];rfl
        have dy:Y.toList.drop (k+1)=yw:=by rw [←List.drop_drop,ey];rfl
        rw [List.range'_succ]
        simp only [Op.eqItems,Sem.run_bind,part,q2,Result.andThen_ok,Bool.false_eq_true,if_false,Nat.mul_one,gx,gy,Sem.run_pure,q1,Sem.run_ite]
        cases b1
        · simp
        · simp only [Bool.not_true,Bool.false_eq_true,if_false,Bool.true_and]
          exact eqItems_run d hl n (k+1) e2 (by rw [dx];exact rx2) (by rw [dy];exact ry2)
theorem equal_run' {P : Program} {w : World} {h : AHeap} {β : Pl} {t : TypeId} {k : EqK} (hk : eqK P t = some k) {x y : AVal} {xv yv : Value} {b : Bool} (e : aeq k x y = some b) (rx : vrel h β x xv) (ry : vrel h β y yv) (d : Nat) :
    (Op.equalIn (d+2) t xv yv).run P w=.ok b w:=by
  unfold eqK at hk
  split at hk
  ·
    rename_i hu
    simp only [Option.some.injEq] at hk;subst hk
    cases x<;>cases y<;>simp [aeq,isNil] at e
    simp only [vrel] at rx ry;subst rx;subst ry;subst e
    exact run_equalIn_bool' w _ t _ _ hu
  · rename_i el hu
    simp only [Option.some.injEq] at hk;subst hk
    cases x<;>cases y<;>simp [aeq,isNil] at e<;>simp only [vrel] at rx ry
    · subst rx;subst ry;subst e;(unfold Op.equalIn;simp only [Sem.run_bind,run_underlying_of hu,Result.andThen_ok];rfl)
    · obtain ⟨a,rfl,_⟩:=ry;subst rx;subst e;(unfold Op.equalIn;simp only [Sem.run_bind,run_underlying_of hu,Result.andThen_ok];rfl)
    · obtain ⟨a,rfl,_⟩:=rx;subst ry;subst e;(unfold Op.equalIn;simp only [Sem.run_bind,run_underlying_of hu,Result.andThen_ok];rfl)
  · rename_i el hu
    simp only [Option.some.injEq] at hk;subst hk
    cases x<;>cases y<;>simp [aeq,isNil] at e<;>simp only [vrel] at rx ry
    · subst rx;subst ry;subst e;(unfold Op.equalIn;simp only [Sem.run_bind,run_underlying_of hu,Result.andThen_ok];rfl)
    · obtain ⟨a,c,rfl,_⟩:=ry;subst rx;subst e;(unfold Op.equalIn;simp only [Sem.run_bind,run_underlying_of hu,Result.andThen_ok];rfl)
    · obtain ⟨a,c,rfl,_⟩:=rx;subst ry;subst e;(unfold Op.equalIn;simp only [Sem.run_bind,run_underlying_of hu,Result.andThen_ok];rfl)
  · rename_i k1 el hu
    simp only [Option.some.injEq] at hk;subst hk
    cases x<;>cases y<;>simp [aeq,isNil] at e<;>simp only [vrel] at rx ry
    · subst rx;subst ry;subst e;(unfold Op.equalIn;simp only [Sem.run_bind,run_underlying_of hu,Result.andThen_ok];rfl)
    · obtain ⟨a,rfl,_⟩:=ry;subst rx;subst e;(unfold Op.equalIn;simp only [Sem.run_bind,run_underlying_of hu,Result.andThen_ok];rfl)
    · obtain ⟨a,rfl,_⟩:=rx;subst ry;subst e;(unfold Op.equalIn;simp only [Sem.run_bind,run_underlying_of hu,Result.andThen_ok];rfl)
  · rename_i p1 p2 p3 hu
    simp only [Option.some.injEq] at hk;subst hk
    cases x<;>cases y<;>simp [aeq,isNil] at e<;>simp only [vrel] at rx ry
    · obtain ⟨a,c,rfl,_⟩:=rx;subst ry;subst e;(unfold Op.equalIn;simp only [Sem.run_bind,run_underlying_of hu,Result.andThen_ok];rfl)
    · obtain ⟨a,c,rfl,_⟩:=ry;subst rx;subst e;(unfold Op.equalIn;simp only [Sem.run_bind,run_underlying_of hu,Result.andThen_ok];rfl)
    · subst rx;subst ry;subst e;(unfold Op.equalIn;simp only [Sem.run_bind,run_underlying_of hu,Result.andThen_ok];rfl)
  · rename_i ms hu
    simp only [Option.some.injEq] at hk;subst hk
    cases x<;>cases y<;>simp [aeq,isNil] at e<;>simp only [vrel] at rx ry
    · obtain ⟨a,rfl,_⟩:=rx;subst ry;subst e;(unfold Op.equalIn;simp only [Sem.run_bind,run_underlying_of hu,Result.andThen_ok];rfl)
    · obtain ⟨a,rfl,_⟩:=ry;subst rx;subst e;(unfold Op.equalIn;simp only [Sem.run_bind,run_underlying_of hu,Result.andThen_ok];rfl)
    · subst rx;subst ry;subst e;(unfold Op.equalIn;simp only [Sem.run_bind,run_underlying_of hu,Result.andThen_ok];rfl)
  · rename_i fs hu
    split at hk
    · rename_i hc
      simp only [Bool.and_eq_true,Bool.not_eq_true'] at hc
      simp only [Option.map_eq_some_iff] at hk
      obtain ⟨ks,hks,rfl⟩:=hk
      cases x<;>cases y<;>simp [aeq] at e
      simp only [vrel] at rx ry
      obtain ⟨X,rfl,rx⟩:=rx
      obtain ⟨Y,rfl,ry⟩:=ry
      have hfo:P.fieldsOf t=fs:=by simp [Program.fieldsOf,hu]
      rw [run_equalIn_struct w (d+1) t X Y (by rw [hfo];exact hu) hc.1,hfo]
      exact eqFields_run d hks e (by simpa using rx) (by simpa using ry)
    · simp at hk
  · rename_i n el hu
    split at hk
    · rename_i hc
      simp only [Bool.and_eq_true,Bool.not_eq_true',beq_iff_eq] at hc
      simp only [Option.map_eq_some_iff] at hk
      obtain ⟨l,hl,rfl⟩:=hk
      cases x<;>cases y<;>simp [aeq] at e
      simp only [vrel] at rx ry
      obtain ⟨X,rfl,rx⟩:=rx
      obtain ⟨Y,rfl,ry⟩:=ry
      have hsz:=hc.1
      simp only [sizeT,Option.map_eq_some_iff] at hsz
      obtain ⟨i,hi,hsz⟩:=hsz
      have hcells:P.cellsOf el=1:=by simp [Program.cellsOf,hi,hsz]
      rw [run_equalIn_array w (d+1) X Y hu hi,hcells,List.range_eq_range']
      exact eqItems_run d hl n 0 e (by simpa using rx) (by simpa using ry)
    · simp at hk
  · simp at hk
theorem equal_run {P : Program} {w : World} {h : AHeap} {β : Pl} {t : TypeId} {k : EqK} (hk : eqK P t = some k) {x y : AVal} {xv yv : Value} {b : Bool} (e : aeq k x y = some b) (rx : vrel h β x xv) (ry : vrel h β y yv) :
    (Op.equal t xv yv).run P w=.ok b w:=equal_run' hk e rx ry 9998
end Go.AM
namespace Go.AM
set_option linter.unusedVariables false
set_option linter.unusedSimpArgs false
theorem findNow_run {h : AHeap} {β : Pl} {d : TypeDesc} {kk : LK} (hd : (kk = .int ∧ ∃ q, d = .int q) ∨ (kk = .str ∧ d = .string)) {k : AVal} {kv : Value} (rk : vrel h β k kv) :
    ∀ {es:List (AVal×AVal)} {fs:List MapEntry} {r:Option (Nat×AVal)} (i:Nat),erel h β es fs→findK kk k es=some r →
      (r=none∧Instr.findNow d kv fs i=some none)∨∃ j av v key,r=some (j,av)∧Instr.findNow d kv fs i=some (some (i+j,v))∧vrel h β av v∧es[j]?=some (key,av)∧litEq kk k key=some true
  | [],fs,r,i,he,hf=>by
    simp only [findK,Option.some.injEq] at hf
    subst hf
    have:fs=[]:=by have:=he.1;simp [vrels] at this;exact this
    subst this
    exact .inl ⟨rfl,rfl⟩
  | (k',v)::es,fs,r,i,he,hf=>by
    obtain ⟨h1,h2⟩:=he
    simp only [List.map_cons] at h1 h2
    cases fs with
    | nil=>simp [vrels] at h1
    | cons f fs =>
      obtain ⟨r1,r2⟩:=vrels_cons_cons.1 h1
      obtain ⟨s1,s2⟩:=vrels_cons_cons.1 h2
      have key:∀ b,litEq kk k k'=some b→Instr.sameNow d kv f.key=some b:=by
        intro b hb
        rcases hd with ⟨rfl,q,rfl⟩ | ⟨rfl,rfl⟩
        · cases k<;>cases k'<;>simp [litEq] at hb
          simp only [vrel] at rk r1
          rw [rk,r1]
          simpa [Instr.sameNow] using hb
        · cases k<;>cases k'<;>simp [litEq] at hb
          simp only [vrel] at rk r1
          rw [rk,r1]
          simp only [Instr.sameNow,beq_toListBytes,ByteArray.toList_eq]
          simpa using hb
      simp only [findK] at hf
      split at hf
      · rename_i hb
        simp only [Option.some.injEq] at hf
        subst hf
        right
        refine ⟨0,v,f.val,k',rfl,?_,s1,rfl,hb⟩
        simp [Instr.findNow,key _ hb]
      · rename_i hb
        simp only [Option.map_eq_some_iff] at hf
        obtain ⟨r',hr',rfl⟩:=hf
        have:=findNow_run hd rk (i+1) ⟨r2,s2⟩ hr'
        rcases this with ⟨rfl,e⟩ | ⟨j,av,v',key',rfl,e,hv,hj,hl⟩
        · left
          exact ⟨rfl,by simp [Instr.findNow,key _ hb,e]⟩
        · right
          refine ⟨j+1,av,v',key',rfl,?_,hv,by simpa using hj,hl⟩
          simp only [Instr.findNow,key _ hb,e]
          congr 3;omega
      · simp at hf
theorem checkKey_run {P:Program} {w:World} {t:TypeId} {d:TypeDesc} (hu:P.underlying t=some d) (hd:(∃ q,d=.int q)∨d=.string) (em:Bool) (n:Nat) (v:Value):(Instr.checkKey em (n+1) t v).run P w=.ok () w:=by
 rcases hd with ⟨q,rfl⟩ | rfl<;>simp [Instr.checkKey,run_underlying_of hu]
theorem mapK_of {P:Program} {t:TypeId} {kk:LK} (hk:mapK P t=some kk):∃ kt e d,P.underlying t=some (.map kt e)∧P.underlying kt=some d∧((kk=.int∧∃ q,d=.int q)∨(kk=.str∧d=.string)):=by
 unfold mapK at hk
 split at hk
 ·rename_i kt e hu
  unfold litK at hk
  cases hkt:P.underlying kt with
  | none=>rw [hkt] at hk;simp at hk
  | some d =>
   rw [hkt] at hk
   cases d<;>simp at hk
   ·subst hk;exact ⟨kt,e,_,hu,hkt,.inl ⟨rfl,_,rfl⟩⟩
   ·subst hk;exact ⟨kt,e,_,hu,hkt,.inr ⟨rfl,rfl⟩⟩
 ·simp at hk
section
variable {P:Program} {h h':AHeap} {β:Pl} {w:World} {e:Env} {a:Act} {o:Oper} {av:AVal} (G:Good P h β w e a.tmps)
 include G
theorem sim_eql {t u : TypeId} {k : EqK} {x y : Operand} {ax ay : AOpd} {neg : Bool} (ho : o.op = .binOp (if neg then .neq else .eql) t x y u) (hk : eqK P t = some k)
    (hg:(∃ ms,P.underlying t=some (.interface ms))→y=.const .nilIface)
    (hx:cOpd P x=some ax) (hy:cOpd P y=some ay) (he:aop e h (.eql neg k ax ay)=some (av,h')):Did P o a.eval h β w av h':=by
  simp only [aop,opMov,opPick,opAlloc,opBox,opBuild,opBuildSlice,opLoad,opStore,opNilCheck,opBin,opEql,opUn,opConv,opB2s,opMkIface,opMkFn,opMkMap,opMkSlice,opSlice,opFieldAddr,opField,opIdxS,opIdxA,opIndex,opIndexStr,opLookup,opMapUpd,opAssertT,opExtract,opLenS,opLenT,opLenM,opMin,opMax,opAppend,opCopy,opDelete,Option.map_eq_some_iff,Prod.mk.injEq] at he
  obtain ⟨b,hb,rfl,rfl⟩:=he
  have rx:=opd_vrel G hx
  have ry:=opd_vrel G hy
  have hr:=equal_run (w:=w) hk hb rx ry
  refine .pure G.rel (v:=.bool (if neg then !b else b)) ?_ (by cases neg<;>simp [vrel])
  have h1:(eqGuard (if neg then .neq else .eql) t x y (a.eval x) (a.eval y)).run P w=.ok () w:=by
    have hop:((if neg then BinOp.neq else BinOp.eql) matches .eql | .neq)=true:=by cases neg<;>rfl
    unfold eqGuard
    by_cases hif:∃ ms,P.underlying t=some (.interface ms)
    · have hyc:=hg hif
      subst hyc
      obtain ⟨ms,hu⟩:=hif
      have hki:k=.iface:=by unfold eqK at hk;rw [hu] at hk;simpa using hk.symm
      subst hki
      have hyn:opd e ay=.nili:=by simp [cOpd,ofVal] at hy;subst hy;rfl
      rw [hyn] at hb
      cases hxo:opd e ax<;>rw [hxo] at hb<;>simp [aeq,isNil] at hb
      · rw [hxo] at rx;simp only [vrel] at rx;obtain ⟨x',ex,_⟩:=rx
        rw [ex]
        cases neg<;>simp [Act.eval]
      · rw [hxo] at rx;simp only [vrel] at rx
        rw [rx]
        cases neg<;>simp [Act.eval]
    ·
      unfold eqK at hk
      split at hk
      · simp only [Option.some.injEq] at hk;subst hk
        cases hxo:opd e ax<;>rw [hxo] at hb<;>simp [aeq,isNil] at hb
        cases hyo:opd e ay<;>rw [hyo] at hb<;>simp [aeq,isNil] at hb
        rw [hxo] at rx;simp only [vrel] at rx;rw [rx]
        cases neg<;>simp
      · simp only [Option.some.injEq] at hk;subst hk
        cases hxo:opd e ax<;>rw [hxo] at hb<;>simp [aeq,isNil] at hb
        · rw [hxo] at rx;simp only [vrel] at rx;rw [rx];cases neg<;>simp
        · rw [hxo] at rx;simp only [vrel] at rx;obtain ⟨_,rx,_⟩:=rx;rw [rx];cases neg<;>simp
      · simp only [Option.some.injEq] at hk;subst hk
        cases hxo:opd e ax<;>rw [hxo] at hb<;>simp [aeq,isNil] at hb
        · rw [hxo] at rx;simp only [vrel] at rx;rw [rx];cases neg<;>simp
        · rw [hxo] at rx;simp only [vrel] at rx;obtain ⟨_,_,rx,_⟩:=rx;rw [rx];cases neg<;>simp
      · simp only [Option.some.injEq] at hk;subst hk
        cases hxo:opd e ax<;>rw [hxo] at hb<;>simp [aeq,isNil] at hb
        · rw [hxo] at rx;simp only [vrel] at rx;rw [rx];cases neg<;>simp
        · rw [hxo] at rx;simp only [vrel] at rx;obtain ⟨_,rx,_⟩:=rx;rw [rx];cases neg<;>simp
      · simp only [Option.some.injEq] at hk;subst hk
        cases hxo:opd e ax<;>rw [hxo] at hb<;>simp [aeq,isNil] at hb
        · rw [hxo] at rx;simp only [vrel] at rx;obtain ⟨_,_,rx,_⟩:=rx;rw [rx];cases neg<;>simp
        · rw [hxo] at rx;simp only [vrel] at rx;rw [rx];cases neg<;>simp
      · rename_i ms hu
        exact absurd ⟨ms,hu⟩ hif
      · rename_i fs hu
        split at hk
        · rename_i hc
          simp only [Bool.and_eq_true,Bool.not_eq_true'] at hc
          simp only [Option.map_eq_some_iff] at hk
          obtain ⟨ks,hks,rfl⟩:=hk
          cases hxo:opd e ax<;>rw [hxo] at hb<;>simp [aeq] at hb
          cases hyo:opd e ay<;>rw [hyo] at hb<;>simp [aeq] at hb
          rw [hxo] at rx;rw [hyo] at ry
          simp only [vrel] at rx ry
          obtain ⟨X,ex,_⟩:=rx
          obtain ⟨Y,ey,_⟩:=ry
          rw [ex,ey]
          cases neg<;>simp [hc.2]
        · simp at hk
      · rename_i n el hu
        split at hk
        · rename_i hc
          simp only [Bool.and_eq_true,Bool.not_eq_true'] at hc
          simp only [Option.map_eq_some_iff] at hk
          obtain ⟨ks,hks,rfl⟩:=hk
          cases hxo:opd e ax<;>rw [hxo] at hb<;>simp [aeq] at hb
          cases hyo:opd e ay<;>rw [hyo] at hb<;>simp [aeq] at hb
          rw [hxo] at rx;rw [hyo] at ry
          simp only [vrel] at rx ry
          obtain ⟨X,ex,_⟩:=rx
          obtain ⟨Y,ey,_⟩:=ry
          rw [ex,ey]
          cases neg<;>simp [hc.2]
        · simp at hk
      · simp at hk
  have h2:(binOp (if neg then .neq else .eql) t (a.eval x) (a.eval y)).run P w=.ok (.bool (if neg then !b else b)) w:=by
    have hlit : ∀ (v v' : Value), (∀ k n, v ≠ .int k n) → (∀ k n, v ≠ .float k n) → (∀ k n m, v ≠ .complex k n m) → (∀ n, v ≠ .string n) →
        binOp (if neg then .neq else .eql) t v v'=(if neg then (do pure (.bool (!(←Op.equal t v v')))) else (do pure (.bool (←Op.equal t v v')))):=by
      intro v v' q1 q2 q3 q4
      cases neg<;>cases v<;>first | exact absurd rfl (q1 _ _) | exact absurd rfl (q2 _ _) | exact absurd rfl (q3 _ _ _) | exact absurd rfl (q4 _) | rfl
    have hne:(∀ k n,a.eval x≠.int k n)∧(∀ k n,a.eval x≠.float k n)∧(∀ k n m,a.eval x≠.complex k n m)∧(∀ n,a.eval x≠.string n):=by
      cases k<;>cases hxo:opd e ax<;>rw [hxo] at hb<;>simp [aeq,isNil] at hb<;>rw [hxo] at rx<;>simp only [vrel] at rx <;>
        first
        | (rw [rx];simp;done)
        | (obtain ⟨_,rx,_⟩:=rx;rw [rx];simp;done)
        | (obtain ⟨_,_,rx,_⟩:=rx;rw [rx];simp;done)
    rw [hlit _ _ hne.1 hne.2.1 hne.2.2.1 hne.2.2.2]
    cases neg<;>simp [hr]
  unfold execOp;rw [ho]
  simp only [Sem.run_bind,h1,h2,Result.andThen_ok,Sem.run_pure]
end
end Go.AM
namespace Go.AM
set_option linter.unusedVariables false
set_option linter.unusedSimpArgs false
def bstep (c:Value) (s:ByteArray):Sem (ForInStep ByteArray) :=
 match c with
 | .int .u8 n=>pure (.yield (s.push (UInt8.ofNat n.toNat)))
 | _=>do stuck "bytesToString: byte expected";pure (.yield s)
theorem asBytes_run {P : Program} {w : World} {h : AHeap} {β : Pl} : ∀ {cs : List AVal} {vs : List Value} {bs : List UInt8} (s0 : ByteArray), asBytes cs = some bs → vrels h β cs vs →
    (forIn vs s0 bstep).run P w=.ok ⟨s0.data++bs.toArray⟩ w
  | [],vs,bs,s0,e,r=>by
    rw [vrels_nil] at r;subst r
    simp only [asBytes,Option.some.injEq] at e;subst e
    simp
  | c::cs,vs,bs,s0,e,r=>by
    obtain ⟨v,ws,rfl,r1,r2⟩:=vrels_cons.1 r
    unfold asBytes at e
    split at e
    · rename_i heq;cases heq
    · rename_i n r' heq
      cases heq
      simp only [Option.map_eq_some_iff] at e
      obtain ⟨bs',e',rfl⟩:=e
      simp only [vrel] at r1
      subst r1
      have ih:=asBytes_run (w:=w) (P:=P) (s0.push (UInt8.ofNat n.toNat)) e' r2
      simp only [List.forIn_cons,Sem.run_bind,bstep,Sem.run_pure,Result.andThen_ok,ih]
      congr 1
      congr 1
      apply Array.ext'
      simp [ByteArray.push]
    · simp at e
section
variable {P:Program} {h h':AHeap} {β:Pl} {w:World} {e:Env} {a:Act} {o:Oper} {av:AVal} (G:Good P h β w e a.tmps)
 include G
theorem sim_b2s {s d E : TypeId} {x : Operand} {ax : AOpd} (ho : o.op = .convert s d x) (hs : P.underlying s = some (.slice E)) (hE : P.underlying E = some (.int .u8)) (hd : P.underlying d = some .string) (hx : cOpd P x = some ax)
    (he:aop e h (.b2s ax)=some (av,h')):Did P o a.eval h β w av h':=by
  simp only [aop,opMov,opPick,opAlloc,opBox,opBuild,opBuildSlice,opLoad,opStore,opNilCheck,opBin,opEql,opUn,opConv,opB2s,opMkIface,opMkFn,opMkMap,opMkSlice,opSlice,opFieldAddr,opField,opIdxS,opIdxA,opIndex,opIndexStr,opLookup,opMapUpd,opAssertT,opExtract,opLenS,opLenT,opLenM,opMin,opMax,opAppend,opCopy,opDelete] at he
  have rx:=opd_vrel G hx
  split at he
  · rename_i hh
    rw [hh] at rx
    simp only [vrel] at rx
    simp only [Option.some.injEq,Prod.mk.injEq] at he
    obtain ⟨rfl,rfl⟩:=he
    refine .pure G.rel (v:=.string .empty) ?_ (by simp [vrel])
    unfold execOp;rw [ho]
    simp only [convert,Sem.run_bind,rx,run_underlying_of hs,run_underlying_of hd,Result.andThen_ok,run_underlying_of hE]
    rfl
  · rename_i id g off len hh
    split at he
    · rename_i hl0
      subst hl0
      simp only [Option.some.injEq,Prod.mk.injEq] at he
      obtain ⟨rfl,rfl⟩:=he
      rw [hh] at rx
      simp only [vrel] at rx
      obtain ⟨ad,cap,ev,hs1,hs2,hs3⟩:=rx
      refine .pure G.rel (v:=.string .empty) ?_ (by simp [vrel])
      unfold execOp;rw [ho]
      simp only [convert,Sem.run_bind,ev,run_underlying_of hs,run_underlying_of hd,Result.andThen_ok,run_underlying_of hE,Conv.bytesToString]
      have hld:(loadCells ad 0).run P w=.ok #[] w:=by simp [loadCells,loadCellsFrom]
      simp only [hld,Result.andThen_ok];rfl
    split at he
    · rename_i hid
      simp only [Option.bind_eq_some_iff,Option.map_eq_some_iff,Prod.mk.injEq] at he
      obtain ⟨cs,hrd,bs,hbs,rfl,rfl⟩:=he
      obtain ⟨hg,vs,hvs,hvl,hcl,hc⟩:=read_at G.rel hid hrd
      rw [hh] at rx
      simp only [vrel] at rx
      obtain ⟨ad,cap,ev,hs1,hs2,hs3⟩:=rx
      obtain ⟨h1,h2,h3⟩:=hs3 hg
      have hld:(loadCells ad len).run P w=.ok vs.toArray w:=by
        by_cases h0:len=0
        · subst h0
          have:vs=[]:=List.eq_nil_of_length_eq_zero hvl
          subst this
          simp [loadCells,loadCellsFrom]
        · have ha:=h3 (by omega)
          subst ha
          have:=run_loadCells_list (P:=P) w _ vs hc
          rw [hvl] at this;exact this
      refine .pure G.rel (v:=.string ⟨bs.toArray⟩) ?_ (by simp [vrel])
      unfold execOp;rw [ho]
      have hf:=asBytes_run (P:=P) (w:=w) ByteArray.empty hbs hvs
      simp only [convert,Sem.run_bind,ev,run_underlying_of hs,run_underlying_of hd,Result.andThen_ok,run_underlying_of hE,Conv.bytesToString,hld]
      rw [←Array.forIn_toList]
      have hf':(forIn vs ByteArray.empty bstep).run P w=.ok ⟨bs.toArray⟩ w:=by
        rw [hf]
        congr 2
        apply Array.ext'
        simp [ByteArray.empty,ByteArray.emptyWithCapacity]
        rfl
      show (((Sem.run P (forIn vs ByteArray.empty bstep) w).andThen _).andThen _)=_
      rw [hf']
      rfl
    · simp at he
  · simp at he
theorem builtin_did {c : Call} {b : Builtin} (ho : o.op = .call c) (hc : c.callee = .builtin b) {av : AVal} {h' : AHeap}
    (hr:∃ v w' β',(builtin b c.argTypes o.type (c.args.map fun | .const _=>true | _=>false) (c.args.map a.eval)).run P w=.ok (.value v) w'∧vrel h' β' av v∧Rel h' β' w'∧Ext h β w h' β' w'):Did P o a.eval h β w av h':=by
  have _:=G.g
  obtain ⟨v,w',β',hr,hv,R',X⟩:=hr
  refine .val (v:=v) ?_ hv R' X
  unfold execOp;rw [ho]
  simp only [resolve,hc,Sem.run_bind,Sem.run_pure,Result.andThen_ok,invoke]
  exact hr
 omit G in
theorem arr1 {α:Type} {x:Array α} {a:α} (h:x.toList=[a]):x=#[a]:=by apply Array.ext';simpa using h
 omit G in
theorem arr2 {α:Type} {x:Array α} {a b:α} (h:x.toList=[a,b]):x=#[a,b]:=by apply Array.ext';simpa using h
theorem sim_lenS {t E : TypeId} {x : Operand} {ax : AOpd} {c : Call} (ho : o.op = .call c) (hc : c.callee = .builtin .len) (h1 : c.args.toList = [x]) (h2 : c.argTypes.toList = [t]) (hd : P.underlying t = some (.slice E)) (hx : cOpd P x = some ax)
    (he:aop e h (.lenS ax)=some (av,h')):Did P o a.eval h β w av h':=by
  have rx:=opd_vrel G hx
  refine builtin_did G ho hc ?_
  rw [arr1 h1,arr1 h2]
  simp only [aop,opMov,opPick,opAlloc,opBox,opBuild,opBuildSlice,opLoad,opStore,opNilCheck,opBin,opEql,opUn,opConv,opB2s,opMkIface,opMkFn,opMkMap,opMkSlice,opSlice,opFieldAddr,opField,opIdxS,opIdxA,opIndex,opIndexStr,opLookup,opMapUpd,opAssertT,opExtract,opLenS,opLenT,opLenM,opMin,opMax,opAppend,opCopy,opDelete] at he
  split at he
  · rename_i hh
    rw [hh] at rx;simp only [vrel] at rx
    simp only [Option.some.injEq,Prod.mk.injEq] at he
    obtain ⟨rfl,rfl⟩:=he
    exact ⟨.int .i64 0,w,β,by simp [builtin,Builtin.len_,run_underlying_of hd,rx,goInt],by simp [vrel],G.rel,Ext.refl _ _ _⟩
  · rename_i i1 i2 i3 len i5 hh
    rw [hh] at rx;simp only [vrel] at rx
    obtain ⟨ad,cap,ev,_⟩:=rx
    simp only [Option.some.injEq,Prod.mk.injEq] at he
    obtain ⟨rfl,rfl⟩:=he
    exact ⟨.int .i64 len,w,β,by simp [builtin,Builtin.len_,run_underlying_of hd,ev,goInt],by simp [vrel],G.rel,Ext.refl _ _ _⟩
  · simp at he
theorem sim_lenT {t : TypeId} {x : Operand} {ax : AOpd} {c : Call} (ho : o.op = .call c) (hc : c.callee = .builtin .len) (h1 : c.args.toList = [x]) (h2 : c.argTypes.toList = [t]) (hd : P.underlying t = some .string) (hx : cOpd P x = some ax)
    (he:aop e h (.lenT ax)=some (av,h')):Did P o a.eval h β w av h':=by
  have rx:=opd_vrel G hx
  refine builtin_did G ho hc ?_
  rw [arr1 h1,arr1 h2]
  simp only [aop,opMov,opPick,opAlloc,opBox,opBuild,opBuildSlice,opLoad,opStore,opNilCheck,opBin,opEql,opUn,opConv,opB2s,opMkIface,opMkFn,opMkMap,opMkSlice,opSlice,opFieldAddr,opField,opIdxS,opIdxA,opIndex,opIndexStr,opLookup,opMapUpd,opAssertT,opExtract,opLenS,opLenT,opLenM,opMin,opMax,opAppend,opCopy,opDelete] at he
  split at he
  · rename_i s hh
    rw [hh] at rx;simp only [vrel] at rx
    simp only [Option.some.injEq,Prod.mk.injEq] at he
    obtain ⟨rfl,rfl⟩:=he
    exact ⟨.int .i64 s.size,w,β,by simp [builtin,Builtin.len_,run_underlying_of hd,rx,goInt],by simp [vrel],G.rel,Ext.refl _ _ _⟩
  · simp at he
theorem map_at {id:Nat} {es:List (AVal×AVal)} (hid:id<h.n) (hg:h.get id=.map es):∃ fs clock,w.heap[(β id).b]?=some (.map fs clock)∧erel h β es fs.toList∧h.gen id=0:=by
 have:=G.rel.obj id hid
 rw [hg] at this
 obtain ⟨fs,k,h1,h2⟩:=this
 exact ⟨fs,k,h1,h2,by unfold AHeap.gen;rw [hg]⟩
theorem sim_lenM {t k v : TypeId} {x : Operand} {ax : AOpd} {c : Call} (ho : o.op = .call c) (hc : c.callee = .builtin .len) (h1 : c.args.toList = [x]) (h2 : c.argTypes.toList = [t]) (hd : P.underlying t = some (.map k v)) (hx : cOpd P x = some ax)
    (he:aop e h (.lenM ax)=some (av,h')):Did P o a.eval h β w av h':=by
  have rx:=opd_vrel G hx
  refine builtin_did G ho hc ?_
  rw [arr1 h1,arr1 h2]
  simp only [aop,opMov,opPick,opAlloc,opBox,opBuild,opBuildSlice,opLoad,opStore,opNilCheck,opBin,opEql,opUn,opConv,opB2s,opMkIface,opMkFn,opMkMap,opMkSlice,opSlice,opFieldAddr,opField,opIdxS,opIdxA,opIndex,opIndexStr,opLookup,opMapUpd,opAssertT,opExtract,opLenS,opLenT,opLenM,opMin,opMax,opAppend,opCopy,opDelete] at he
  split at he
  · rename_i hh
    rw [hh] at rx;simp only [vrel] at rx
    simp only [Option.some.injEq,Prod.mk.injEq] at he
    obtain ⟨rfl,rfl⟩:=he
    exact ⟨.int .i64 0,w,β,by simp [builtin,Builtin.len_,run_underlying_of hd,rx,goInt],by simp [vrel],G.rel,Ext.refl _ _ _⟩
  · rename_i id hh
    rw [hh] at rx;simp only [vrel] at rx
    obtain ⟨b,ev,hid,hb⟩:=rx
    split at he
    · rename_i es hg
      simp only [Option.some.injEq,Prod.mk.injEq] at he
      obtain ⟨rfl,rfl⟩:=he
      obtain ⟨fs,clock,hw,hrel,h0⟩:=map_at G hid hg
      have hl:=vrels_length hrel.1
      simp at hl
      rw [hb h0] at ev
      refine ⟨.int .i64 es.length,w,β,?_,by simp [vrel],G.rel,Ext.refl _ _ _⟩
      simp [builtin,Builtin.len_,run_underlying_of hd,ev,goInt,getObj,Sem.run,hw,hl]
    · simp at he
  · simp at he
theorem sim_min {x y : Operand} {ax ay : AOpd} {c : Call} (ho : o.op = .call c) (hc : c.callee = .builtin .min) (h1 : c.args.toList = [x, y]) (hx : cOpd P x = some ax) (hy : cOpd P y = some ay)
    (he:aop e h (.min ax ay)=some (av,h')):Did P o a.eval h β w av h':=by
  have rx:=opd_vrel G hx
  have ry:=opd_vrel G hy
  refine builtin_did G ho hc ?_
  rw [arr2 h1]
  simp only [aop,opMov,opPick,opAlloc,opBox,opBuild,opBuildSlice,opLoad,opStore,opNilCheck,opBin,opEql,opUn,opConv,opB2s,opMkIface,opMkFn,opMkMap,opMkSlice,opSlice,opFieldAddr,opField,opIdxS,opIdxA,opIndex,opIndexStr,opLookup,opMapUpd,opAssertT,opExtract,opLenS,opLenT,opLenM,opMin,opMax,opAppend,opCopy,opDelete] at he
  split at he
  · rename_i k p k' q hh1 hh2
    rw [hh1] at rx;rw [hh2] at ry
    simp only [vrel] at rx ry
    split at he
    · rename_i hk
      simp only [Option.some.injEq,Prod.mk.injEq] at he
      obtain ⟨rfl,rfl⟩:=he
      exact ⟨.int k (if q<p then q else p),w,β,by simp [builtin,Builtin.min_,Builtin.min2,rx,ry],by simp [vrel],G.rel,Ext.refl _ _ _⟩
    · simp at he
  · simp at he
theorem sim_max {x y : Operand} {ax ay : AOpd} {c : Call} (ho : o.op = .call c) (hc : c.callee = .builtin .max) (h1 : c.args.toList = [x, y]) (hx : cOpd P x = some ax) (hy : cOpd P y = some ay)
    (he:aop e h (.max ax ay)=some (av,h')):Did P o a.eval h β w av h':=by
  have rx:=opd_vrel G hx
  have ry:=opd_vrel G hy
  refine builtin_did G ho hc ?_
  rw [arr2 h1]
  simp only [aop,opMov,opPick,opAlloc,opBox,opBuild,opBuildSlice,opLoad,opStore,opNilCheck,opBin,opEql,opUn,opConv,opB2s,opMkIface,opMkFn,opMkMap,opMkSlice,opSlice,opFieldAddr,opField,opIdxS,opIdxA,opIndex,opIndexStr,opLookup,opMapUpd,opAssertT,opExtract,opLenS,opLenT,opLenM,opMin,opMax,opAppend,opCopy,opDelete] at he
  split at he
  · rename_i k p k' q hh1 hh2
    rw [hh1] at rx;rw [hh2] at ry
    simp only [vrel] at rx ry
    split at he
    · rename_i hk
      simp only [Option.some.injEq,Prod.mk.injEq] at he
      obtain ⟨rfl,rfl⟩:=he
      exact ⟨.int k (if p<q then q else p),w,β,by simp [builtin,Builtin.max_,Builtin.max2,rx,ry],by simp [vrel],G.rel,Ext.refl _ _ _⟩
    · simp at he
  · simp at he
theorem sim_max3 {x y z : Operand} {ax ay az : AOpd} {c : Call} (ho : o.op = .call c) (hc : c.callee = .builtin .max) (h1 : c.args.toList = [x, y, z]) (hx : cOpd P x = some ax) (hy : cOpd P y = some ay) (hz : cOpd P z = some az)
    (he:aop e h (.max3 ax ay az)=some (av,h')):Did P o a.eval h β w av h':=by
  have rx:=opd_vrel G hx
  have ry:=opd_vrel G hy
  have rz:=opd_vrel G hz
  refine builtin_did G ho hc ?_
  have h3:c.args=#[x,y,z]:=by apply Array.ext';simpa using h1
  rw [h3]
  simp only [aop,opMax3] at he
  split at he
  · rename_i k p k' q k'' r hh1 hh2 hh3
    rw [hh1] at rx;rw [hh2] at ry;rw [hh3] at rz
    simp only [vrel] at rx ry rz
    split at he
    · rename_i hk
      simp only [Option.some.injEq,Prod.mk.injEq] at he
      obtain ⟨rfl,rfl⟩:=he
      exact ⟨.int k (if (if p<q then q else p)<r then r else (if p<q then q else p)),w,β,by simp [builtin,Builtin.max_,Builtin.max2,rx,ry,rz],by simp [vrel],G.rel,Ext.refl _ _ _⟩
    · simp at he
  · simp at he
theorem sim_append {s t E : TypeId} {sz b : Nat} {z : List AVal} {d : TypeDesc} {x y : Operand} {ax ay : AOpd} {c : Call} (ho : o.op = .call c) (hc : c.callee = .builtin .append) (h1 : c.args.toList = [x, y]) (h2 : c.argTypes.toList = [s, t])
    (hE:elemT P s=some E) (hi:eInfo P E=some (sz,b,z)) (hd:P.underlying t=some d) (hdk:∀ k,d≠.int k) (hx:cOpd P x=some ax) (hy:cOpd P y=some ay)
    (he:aop e h (.append sz b ax ay)=some (av,h')):Did P o a.eval h β w av h':=by
  obtain ⟨zv,hI,_⟩:=eInfo_of (h:=h) (β:=β) G hi
  simp only [aop,opMov,opPick,opAlloc,opBox,opBuild,opBuildSlice,opLoad,opStore,opNilCheck,opBin,opEql,opUn,opConv,opB2s,opMkIface,opMkFn,opMkMap,opMkSlice,opSlice,opFieldAddr,opField,opIdxS,opIdxA,opIndex,opIndexStr,opLookup,opMapUpd,opAssertT,opExtract,opLenS,opLenT,opLenM,opMin,opMax,opAppend,opCopy,opDelete] at he
  obtain ⟨v,w',β',hr,R',X,hv⟩:=app_run (P:=P) G.rel (elemT_of hE) hd hdk hI he (opd_vrel G hx) (opd_vrel G hy) o.type
  refine builtin_did G ho hc ⟨v,w',β',?_,hv,R',X⟩
  rw [arr2 h1,arr2 h2]
  simp only [builtin,List.map_toArray,List.map_cons,List.map_nil,Sem.run_bind,hr,Result.andThen_ok,Sem.run_pure]
theorem sim_copy {s t E : TypeId} {sz : Nat} {x y : Operand} {ax ay : AOpd} {c : Call} (ho : o.op = .call c) (hc : c.callee = .builtin .copy) (h1 : c.args.toList = [x, y]) (h2 : c.argTypes.toList = [s, t])
    (hE:elemT P s=some E) (hs:sizeT P E=some (sz+1)) (hx:cOpd P x=some ax) (hy:cOpd P y=some ay)
    (he:aop e h (.copy (sz+1) ax ay)=some (av,h')):Did P o a.eval h β w av h':=by
  have rx:=opd_vrel G hx
  have ry:=opd_vrel G hy
  simp only [sizeT,Option.map_eq_some_iff] at hs
  obtain ⟨ti,hti,hsz⟩:=hs
  refine builtin_did G ho hc ?_
  rw [arr2 h1,arr2 h2]
  simp only [aop,opMov,opPick,opAlloc,opBox,opBuild,opBuildSlice,opLoad,opStore,opNilCheck,opBin,opEql,opUn,opConv,opB2s,opMkIface,opMkFn,opMkMap,opMkSlice,opSlice,opFieldAddr,opField,opIdxS,opIdxA,opIndex,opIndexStr,opLookup,opMapUpd,opAssertT,opExtract,opLenS,opLenT,opLenM,opMin,opMax,opAppend,opCopy,opDelete] at he
  split at he
  · rename_i hh
    rw [hh] at rx;simp only [vrel] at rx
    simp only [Option.map_eq_some_iff,Prod.mk.injEq] at he
    obtain ⟨⟨m,ys⟩,hel,rfl,rfl⟩:=he
    obtain ⟨hlen,hyl,xs,hxs,hfirst⟩:=elems_run (P:=P) G.rel hel ry
    have hf:=hfirst 0 (Nat.zero_le _)
    simp only [Nat.zero_mul,List.take_zero] at hf
    refine ⟨.int .i64 0,w,β,?_,by simp [vrel],G.rel,Ext.refl _ _ _⟩
    have hm:Nat.min m 0=0:=Nat.min_zero m
    simp [builtin,Builtin.copy_,run_underlying_of (elemT_of hE),rx,hlen,run_sizeOf_of hti,hsz,hm,hf,goInt]
  · rename_i id g off len es hh
    split at he
    · rename_i hcc
      obtain ⟨rfl,hid⟩:=hcc
      simp only [Option.bind_eq_some_iff,Option.map_eq_some_iff,Prod.mk.injEq] at he
      obtain ⟨⟨m,ys⟩,hel,h2',hw,rfl,rfl⟩:=he
      obtain ⟨hlen,hyl,xs,hxs,hfirst⟩:=elems_run (P:=P) G.rel hel ry
      have hf:=hfirst (min m len) (Nat.min_le_left _ _)
      obtain ⟨hg,w',hst,R',X⟩:=write_at (P:=P) G.rel hid hw (vrels_take (min m len*(sz+1)) hxs)
      rw [hh] at rx;simp only [vrel] at rx
      obtain ⟨ad,cap,ev,hs1,hs2,hs3⟩:=rx
      obtain ⟨q1,q2,q3⟩:=hs3 hg
      by_cases hl0:cap=0
      ·
        have hmm:min m len=0:=by omega
        have hw2:w'=w:=by
          have:xs.take (min m len*(sz+1))=[]:=by rw [hmm];simp
          rw [this] at hst
          simp [storeCells] at hst
          exact hst.symm
        subst hw2
        refine ⟨.int .i64 (min m len:Nat),w',β,?_,by simp [vrel],R',X⟩
        have hmn:Nat.min m len=0:=hmm
        rw [hmm] at hf
        simp only [Nat.zero_mul,List.take_zero] at hf
        simp [builtin,Builtin.copy_,run_underlying_of (elemT_of hE),ev,hlen,run_sizeOf_of hti,hsz,hmn,hmm,hf,goInt,storeCells]
      · have ha:=q3 (by omega)
        subst ha
        refine ⟨.int .i64 (min m len:Nat),w',β,?_,by simp [vrel],R',X⟩
        have hmn:Nat.min m len=min m len:=rfl
        simp only [builtin,Builtin.copy_,List.map_toArray,List.map_cons,List.map_nil,List.getElem?_toArray,List.getElem?_cons_zero,List.getElem?_cons_succ,Sem.run_bind,run_underlying_of (elemT_of hE),ev,hlen,run_sizeOf_of hti,hsz,hmn,hf,Result.andThen_ok,hst,goInt,Sem.run_pure]
    · simp at he
  · simp at he
theorem find_run {t : TypeId} {kk : LK} (hk : mapK P t = some kk) {k : AVal} {kv : Value} (rk : vrel h β k kv) {es : List (AVal × AVal)} {fs : Array MapEntry} {r : Option (Nat × AVal)} (hr : erel h β es fs.toList) (hf : findK kk k es = some r) :
    ∃ kt el,P.underlying t=some (.map kt el)∧(∀ em,(Instr.checkKey em 10000 kt kv).run P w=.ok () w) ∧
      ((r=none∧(Instr.findKey kt kv fs.toList).run P w=.ok none w)∨∃ j av v key,r=some (j,av)∧(Instr.findKey kt kv fs.toList).run P w=.ok (some (j,v)) w∧vrel h β av v∧es[j]?=some (key,av)∧litEq kk k key=some true):=by
  have _:=G.g
  obtain ⟨kt,el,d,h1,h2,h3⟩:=mapK_of hk
  refine ⟨kt,el,h1,fun em=>checkKey_run h2 (by rcases h3 with ⟨_,q,rfl⟩ | ⟨_,rfl⟩;exact .inl ⟨q,rfl⟩;exact .inr rfl) em 9999 kv,?_⟩
  rcases findNow_run h3 rk 0 hr hf with ⟨rfl,e⟩ | ⟨j,av,v,key,rfl,e,hv,hj,hl⟩
  · exact .inl ⟨rfl,by simp [Instr.findKey,run_underlying_of h2,e]⟩
  · exact .inr ⟨j,av,v,key,rfl,by simp [Instr.findKey,run_underlying_of h2,e],hv,hj,hl⟩
theorem run_getObj_map {r:Nat} {fs:Array MapEntry} {clock:Nat} (hw:w.heap[r]?=some (.map fs clock)):(getObj r).run P w=.ok (.map fs clock) w:=by
 have _:=G.g
 simp [getObj,Sem.run,hw]
theorem run_setObj_map {r:Nat} {fs:Array MapEntry} {clock:Nat} (x:Obj) (hw:w.heap[r]?=some (.map fs clock)):(setObj r x).run P w=.ok () { w with heap:=w.heap.setIfInBounds r x }:=by
 have _:=G.g
 simp [setObj,Sem.run,hw]
theorem sim_lookup {t kt0 el0 : TypeId} {kk : LK} {z : AVal} {ok : Bool} {m k : Operand} {am ak : AOpd} (ho : o.op = .lookup t m k ok) (ht : P.underlying t = some (.map kt0 el0)) (hk : mapK P t = some kk) (hz : zeroT P el0 = some z) (hm : cOpd P m = some am) (hkk : cOpd P k = some ak)
    (he:aop e h (.lookup kk z ok am ak)=some (av,h')):Did P o a.eval h β w av h':=by
  have rm:=opd_vrel G hm
  have rk:=opd_vrel G hkk
  simp only [zeroT,Option.bind_eq_some_iff] at hz
  obtain ⟨ti,hti,zv,hzv,hz⟩:=hz
  have hzr:=(ofZero_vrel hz h β).1
  have out:∀ (v:Value) (v':AVal) (b:Bool),vrel h β v' v→vrel h β (if ok then .tup [v',.bool b] else v') (if ok then .tuple #[v,.bool b] else v):=by
    intro v v' b hv
    cases ok
    · exact hv
    · simp only [if_true,vrel];exact ⟨_,rfl,by simp only [vrels];exact ⟨_,_,rfl,hv,_,_,rfl,by simp [vrel],rfl⟩⟩
  simp only [aop,opMov,opPick,opAlloc,opBox,opBuild,opBuildSlice,opLoad,opStore,opNilCheck,opBin,opEql,opUn,opConv,opB2s,opMkIface,opMkFn,opMkMap,opMkSlice,opSlice,opFieldAddr,opField,opIdxS,opIdxA,opIndex,opIndexStr,opLookup,opMapUpd,opAssertT,opExtract,opLenS,opLenT,opLenM,opMin,opMax,opAppend,opCopy,opDelete] at he
  split at he
  · rename_i hh
    rw [hh] at rm;simp only [vrel] at rm
    simp only [Option.some.injEq,Prod.mk.injEq] at he
    obtain ⟨rfl,rfl⟩:=he
    obtain ⟨kt,el,d,h1,h2,h3⟩:=mapK_of hk
    rw [ht] at h1
    simp only [Option.some.injEq,TypeDesc.map.injEq] at h1
    obtain ⟨rfl,rfl⟩:=h1
    have hck:=checkKey_run (P:=P) (w:=w) h2 (by rcases h3 with ⟨_,q,rfl⟩ | ⟨_,rfl⟩;exact .inl ⟨q,rfl⟩;exact .inr rfl) true 9999 (a.eval k)
    refine .pure G.rel (v:=if ok then .tuple #[zv,.bool false] else zv) ?_ (out _ _ _ hzr)
    unfold execOp;rw [ho]
    simp only [Instr.lookup,Sem.run_bind,run_underlying_of ht,Result.andThen_ok,rm,Sem.run_pure,List.isEmpty_toArray,List.isEmpty_nil,hck,Instr.findKey,run_underlying_of h2,Instr.findNow,run_zeroValue_of hti hzv]
  · rename_i id hh
    rw [hh] at rm;simp only [vrel] at rm
    obtain ⟨b,ev,hid,hb⟩:=rm
    split at he
    · rename_i es hg
      simp only [Option.bind_eq_some_iff] at he
      obtain ⟨r,hf,he⟩:=he
      obtain ⟨fs,clock,hw,hrel,h0⟩:=map_at G hid hg
      obtain ⟨kt,el,h1,hck,hfr⟩:=find_run G hk rk hrel hf
      rw [ht] at h1
      simp only [Option.some.injEq,TypeDesc.map.injEq] at h1
      obtain ⟨rfl,rfl⟩:=h1
      rw [hb h0] at ev
      rcases hfr with ⟨rfl,e1⟩ | ⟨j,av',v,key,rfl,e1,hv,hj,hl⟩
      · simp only [Option.some.injEq,Prod.mk.injEq] at he
        obtain ⟨rfl,rfl⟩:=he
        refine .pure G.rel (v:=if ok then .tuple #[zv,.bool false] else zv) ?_ (out _ _ _ hzr)
        unfold execOp;rw [ho]
        simp only [Instr.lookup,Sem.run_bind,run_underlying_of ht,Result.andThen_ok,ev,run_getObj_map G hw,Sem.run_pure,hck,e1,run_zeroValue_of hti hzv]
      · simp only [Option.some.injEq,Prod.mk.injEq] at he
        obtain ⟨rfl,rfl⟩:=he
        refine .pure G.rel (v:=if ok then .tuple #[v,.bool true] else v) ?_ (out _ _ _ hv)
        unfold execOp;rw [ho]
        simp only [Instr.lookup,Sem.run_bind,run_underlying_of ht,Result.andThen_ok,ev,run_getObj_map G hw,Sem.run_pure,hck,e1]
    · simp at he
  · simp at he
theorem map_upd {id : Nat} {es es' : List (AVal × AVal)} {fs fs' : Array MapEntry} {clock clock' : Nat} (hid : id < h.n) (hg : h.get id = .map es) (hw : w.heap[(β id).b]? = some (.map fs clock)) (hr : erel h β es' fs'.toList) :
    Rel (h.set id (.map es')) β { w with heap:=w.heap.setIfInBounds (β id).b (.map fs' clock') }∧Ext h β w (h.set id (.map es')) β { w with heap:=w.heap.setIfInBounds (β id).b (.map fs' clock') }:=by
  have hlt:(β id).b<w.heap.size:=(Array.getElem?_eq_some_iff.1 hw).1
  have hu:=Rel.upd (w':={ w with heap:=w.heap.setIfInBounds (β id).b (.map fs' clock') }) G.rel hid (by rw [hg];rfl) (o:=.map es') (l:=β id) (.inl rfl)
    (by
      have e1:h.gen id=0:=by unfold AHeap.gen;rw [hg]
      have e2:(h.set id (.map es')).gen id=0:=by unfold AHeap.gen;rw [AHeap.get_set_same]
      rw [e1,e2];exact ⟨Nat.le_refl _,fun _=>rfl⟩)
    (by simp) (fun b _ hne=>by show (w.heap.setIfInBounds _ _)[b]?=_;rw [Array.getElem?_setIfInBounds,if_neg (Ne.symm hne)]) rfl rfl (frozen_setMap w hw)
    (fun hx=>⟨fs',clock',by show (w.heap.setIfInBounds _ _)[(β id).b]?=_;rw [Array.getElem?_setIfInBounds,if_pos rfl,if_pos hlt],hr.mono hx⟩)
  rwa [updP_self] at hu
 omit G in
theorem erel_modify {es : List (AVal × AVal)} {fs : List MapEntry} (hr : erel h β es fs) {v : AVal} {vv : Value} (rv : vrel h β v vv) {kv : Value} : ∀ (j : Nat) {key : AVal} {old : AVal}, es[j]? = some (key, old) → (∀ f, fs[j]? = some f → vrel h β key kv) →
    erel h β (es.modify j fun p=>(p.1,v)) (fs.modify j fun f=>{ f with key:=kv,val:=vv }):=by
  intro j
  induction j generalizing es fs with
  | zero =>
    intro key old he hf
    cases es with
    | nil=>simp at he
    | cons p es =>
      simp at he;subst he
      obtain ⟨h1,h2⟩:=hr
      simp only [List.map_cons] at h1 h2
      cases fs with
      | nil=>simp [vrels] at h1
      | cons f fs =>
        obtain ⟨r1,r2⟩:=vrels_cons_cons.1 h1
        obtain ⟨s1,s2⟩:=vrels_cons_cons.1 h2
        exact ⟨vrels_cons_cons.2 ⟨hf f rfl,r2⟩,vrels_cons_cons.2 ⟨rv,s2⟩⟩
  | succ j ih =>
    intro key old he hf
    cases es with
    | nil=>simp at he
    | cons p es =>
      obtain ⟨h1,h2⟩:=hr
      simp only [List.map_cons] at h1 h2
      cases fs with
      | nil=>simp [vrels] at h1
      | cons f fs =>
        obtain ⟨r1,r2⟩:=vrels_cons_cons.1 h1
        obtain ⟨s1,s2⟩:=vrels_cons_cons.1 h2
        obtain ⟨q1,q2⟩:=ih ⟨r2,s2⟩ (by simpa using he) (fun f' hf'=>hf f' (by simpa using hf'))
        exact ⟨vrels_cons_cons.2 ⟨r1,q1⟩,vrels_cons_cons.2 ⟨s1,q2⟩⟩
 omit G in
theorem erel_erase {es:List (AVal×AVal)} {fs:List MapEntry} (hr:erel h β es fs):∀ (j:Nat),erel h β (es.eraseIdx j) (fs.eraseIdx j):=by
  intro j
  induction j generalizing es fs with
  | zero =>
    obtain ⟨h1,h2⟩:=hr
    cases es with
    | nil=>simp [vrels] at h1;subst h1;exact ⟨by simp [vrels],by simp [vrels]⟩
    | cons p es =>
      simp only [List.map_cons] at h1 h2
      cases fs with
      | nil=>simp [vrels] at h1
      | cons f fs=>exact ⟨(vrels_cons_cons.1 h1).2,(vrels_cons_cons.1 h2).2⟩
  | succ j ih =>
    obtain ⟨h1,h2⟩:=hr
    cases es with
    | nil=>simp [vrels] at h1;subst h1;exact ⟨by simp [vrels],by simp [vrels]⟩
    | cons p es =>
      simp only [List.map_cons] at h1 h2
      cases fs with
      | nil=>simp [vrels] at h1
      | cons f fs =>
        obtain ⟨r1,r2⟩:=vrels_cons_cons.1 h1
        obtain ⟨s1,s2⟩:=vrels_cons_cons.1 h2
        obtain ⟨q1,q2⟩:=ih ⟨r2,s2⟩
        exact ⟨vrels_cons_cons.2 ⟨r1,q1⟩,vrels_cons_cons.2 ⟨s1,q2⟩⟩
 omit G in
theorem lit_same {kk:LK} {x y:AVal} (hkk:kk=.int∨kk=.str) (e:litEq kk x y=some true) {xv yv:Value} (rx:vrel h β x xv) (ry:vrel h β y yv):Instr.sameBits 10000 yv xv=true∧vrel h β y xv:=by
  rcases hkk with rfl | rfl
  · cases x<;>cases y<;>simp [litEq] at e
    simp only [vrel] at rx ry
    obtain ⟨rfl,rfl⟩:=e
    subst rx;subst ry
    exact ⟨by simp [Instr.sameBits],by simp [vrel]⟩
  · cases x<;>cases y<;>simp [litEq] at e
    simp only [vrel] at rx ry
    rename_i p q
    have:p=q:=by cases p;cases q;simp at e;subst e;rfl
    subst this
    subst rx;subst ry
    exact ⟨by simp only [Instr.sameBits];rw [beq_toListBytes];simp,by simp [vrel]⟩
theorem sim_mapUpd {t : TypeId} {kk : LK} {m k v : Operand} {am ak avv : AOpd} (ho : o.op = .mapUpdate t m k v ∨ o.op = .insert t m k v) (hk : mapK P t = some kk) (hm : cOpd P m = some am) (hkk : cOpd P k = some ak) (hv : cOpd P v = some avv)
    (he:aop e h (.mapUpd kk am ak avv)=some (av,h')):Did P o a.eval h β w av h':=by
  have rm:=opd_vrel G hm
  have rk:=opd_vrel G hkk
  have rv:=opd_vrel G hv
  have hex:execOp a.eval o=(do Instr.mapUpdate t (a.eval m) (a.eval k) (a.eval v);pure .skip):=by
    unfold execOp;rcases ho with ho | ho<;>rw [ho]
  have hkind:kk=.int∨kk=.str:=by
    obtain ⟨kt,el,d,h1,h2,h3⟩:=mapK_of hk
    rcases h3 with ⟨h,_⟩ | ⟨h,_⟩;exact .inl h;exact .inr h
  simp only [aop,opMov,opPick,opAlloc,opBox,opBuild,opBuildSlice,opLoad,opStore,opNilCheck,opBin,opEql,opUn,opConv,opB2s,opMkIface,opMkFn,opMkMap,opMkSlice,opSlice,opFieldAddr,opField,opIdxS,opIdxA,opIndex,opIndexStr,opLookup,opMapUpd,opAssertT,opExtract,opLenS,opLenT,opLenM,opMin,opMax,opAppend,opCopy,opDelete] at he
  split at he
  · rename_i id hh
    rw [hh] at rm;simp only [vrel] at rm
    obtain ⟨b,ev,hid,hb⟩:=rm
    split at he
    · rename_i es hg
      split at he
      · rename_i hcell
        simp only [Option.map_eq_some_iff] at he
        obtain ⟨r,hf,he⟩:=he
        obtain ⟨fs,clock,hw,hrel,h0⟩:=map_at G hid hg
        obtain ⟨kt,el,h1,hck,hfr⟩:=find_run G hk rk hrel hf
        rw [hb h0] at ev
        rcases hfr with ⟨rfl,e1⟩ | ⟨j,av',v',key,rfl,e1,hv',hj,hl⟩
        · simp only [Prod.mk.injEq] at he
          obtain ⟨rfl,rfl⟩:=he
          obtain ⟨R',X⟩:=map_upd G (es':=es++[(opd e ak,opd e avv)]) (fs':=fs.push { key:=a.eval k,val:=a.eval v,born:=clock }) (clock':=clock+1) hid hg hw (by
            simp only [erel,List.map_append,Array.toList_push,List.map_cons,List.map_nil]
            exact ⟨vrels_append hrel.1 (vrels_cons_cons.2 ⟨rk,by simp [vrels]⟩),vrels_append hrel.2 (vrels_cons_cons.2 ⟨rv,by simp [vrels]⟩)⟩)
          refine ⟨_,β,.inr ⟨?_,rfl⟩,R',X⟩
          rw [hex]
          simp only [Instr.mapUpdate,Sem.run_bind,run_underlying_of h1,Result.andThen_ok,ev,run_getObj_map G hw,hck,e1,run_setObj_map G _ hw,Sem.run_pure]
        · simp only [Prod.mk.injEq] at he
          obtain ⟨rfl,rfl⟩:=he
          have hlen:fs.toList.length=es.length:=by have:=vrels_length hrel.1;simpa using this
          have hjl:j<es.length:=(List.getElem?_eq_some_iff.1 hj).1
          obtain ⟨f,hfj⟩:∃ f,fs.toList[j]?=some f:=⟨_,List.getElem?_eq_getElem (by omega)⟩
          have hkey:vrel h β key f.key:=by
            have:=vrels_get hrel.1 (i:=j) (a:=key) (by simp [hj])
            obtain ⟨x,hx1,hx2⟩:=this
            simp [hfj] at hx1;subst hx1;exact hx2
          have hsame:=lit_same hkind hl rk hkey
          obtain ⟨R',X⟩:=map_upd G (es':=es.modify j fun p=>(p.1,opd e avv)) (fs':=fs.modify j fun f=>{ f with key:=a.eval k,val:=a.eval v }) (clock':=clock) hid hg hw (by
            rw [Array.toList_modify]
            exact erel_modify hrel rv j hj (fun f' hf'=>hsame.2))
          refine ⟨_,β,.inr ⟨?_,rfl⟩,R',X⟩
          rw [hex]
          rw [Array.getElem?_toList] at hfj
          simp only [Instr.mapUpdate,Sem.run_bind,run_underlying_of h1,Result.andThen_ok,ev,run_getObj_map G hw,hck,e1,hfj,Option.map_some,Option.getD_some,Instr.keyThatStays,hsame.1,if_true,Sem.run_pure,run_setObj_map G _ hw]
      · simp at he
    · simp at he
  · simp at he
theorem sim_delete {t : TypeId} {ts : List TypeId} {kk : LK} {m k : Operand} {am ak : AOpd} {c : Call} (ho : o.op = .call c) (hc : c.callee = .builtin .delete) (h1 : c.args.toList = [m, k]) (h2 : c.argTypes.toList = t :: ts) (hk : mapK P t = some kk) (hm : cOpd P m = some am) (hkk : cOpd P k = some ak)
    (he:aop e h (.delete kk am ak)=some (av,h')):Did P o a.eval h β w av h':=by
  have rm:=opd_vrel G hm
  have rk:=opd_vrel G hkk
  have h2':c.argTypes[0]?=some t:=by
    have:c.argTypes.toList[0]?=some t:=by rw [h2];rfl
    simpa using this
  refine builtin_did G ho hc ?_
  rw [arr2 h1]
  simp only [aop,opMov,opPick,opAlloc,opBox,opBuild,opBuildSlice,opLoad,opStore,opNilCheck,opBin,opEql,opUn,opConv,opB2s,opMkIface,opMkFn,opMkMap,opMkSlice,opSlice,opFieldAddr,opField,opIdxS,opIdxA,opIndex,opIndexStr,opLookup,opMapUpd,opAssertT,opExtract,opLenS,opLenT,opLenM,opMin,opMax,opAppend,opCopy,opDelete] at he
  split at he
  · rename_i id hh
    rw [hh] at rm;simp only [vrel] at rm
    obtain ⟨b,ev,hid,hb⟩:=rm
    split at he
    · rename_i es hg
      simp only [Option.map_eq_some_iff] at he
      obtain ⟨r,hf,he⟩:=he
      obtain ⟨fs,clock,hw,hrel,h0⟩:=map_at G hid hg
      obtain ⟨kt,el,hu,hck,hfr⟩:=find_run G hk rk hrel hf
      rw [hb h0] at ev
      rcases hfr with ⟨rfl,e1⟩ | ⟨j,av',v',key,rfl,e1,hv',hj,hl⟩
      · simp only [Prod.mk.injEq] at he
        obtain ⟨rfl,rfl⟩:=he
        obtain ⟨R',X⟩:=map_upd G (es':=es) (fs':=fs) (clock':=clock) hid hg hw hrel
        have hset:h.set id (.map es)=h.set id (.map es):=rfl
        refine ⟨.tuple #[],{ w with heap:=w.heap.setIfInBounds (β id).b (.map fs clock) },β,?_,by simp [vrel],?_,?_⟩
        · simp only [builtin,Builtin.delete_,List.map_toArray,List.map_cons,List.map_nil,List.getElem?_toArray,List.getElem?_cons_zero,List.getElem?_cons_succ,h2',Sem.run_bind,run_underlying_of hu,Result.andThen_ok,ev,run_getObj_map G hw,hck,e1,run_setObj_map G _ hw,Sem.run_pure]
        · refine (Rel.same (w':={ w with heap:=w.heap.setIfInBounds (β id).b (.map fs clock) }) G.rel ?_ rfl rfl).1
          show w.heap.setIfInBounds _ _=w.heap
          apply Array.ext_getElem?
          intro i
          rw [Array.getElem?_setIfInBounds]
          split
          · rename_i hi;subst hi
            rw [hw];simp [(Array.getElem?_eq_some_iff.1 hw).1]
          · rfl
        · refine (Rel.same (w':={ w with heap:=w.heap.setIfInBounds (β id).b (.map fs clock) }) G.rel ?_ rfl rfl).2
          show w.heap.setIfInBounds _ _=w.heap
          apply Array.ext_getElem?
          intro i
          rw [Array.getElem?_setIfInBounds]
          split
          · rename_i hi;subst hi
            rw [hw];simp [(Array.getElem?_eq_some_iff.1 hw).1]
          · rfl
      · simp only [Prod.mk.injEq] at he
        obtain ⟨rfl,rfl⟩:=he
        obtain ⟨R',X⟩:=map_upd G (es':=es.eraseIdx j) (fs':=fs.eraseIdxIfInBounds j) (clock':=clock) hid hg hw (by
          have:(fs.eraseIdxIfInBounds j).toList=fs.toList.eraseIdx j:=by simp
          rw [this];exact erel_erase hrel j)
        refine ⟨.tuple #[],_,β,?_,by simp [vrel],R',X⟩
        simp only [builtin,Builtin.delete_,List.map_toArray,List.map_cons,List.map_nil,List.getElem?_toArray,List.getElem?_cons_zero,List.getElem?_cons_succ,h2',Sem.run_bind,run_underlying_of hu,Result.andThen_ok,ev,run_getObj_map G hw,hck,e1,run_setObj_map G _ hw,Sem.run_pure]
    · simp at he
  · simp at he
end
end Go.AM
namespace Go.AM
set_option linter.unusedVariables false
set_option linter.unusedSimpArgs false
theorem find_f2b {fn:Func} (hn:fn.name="math.Float64bits") (ho:fn.origin=""):Extern.findNext fn=none∧Extern.find fn=some Extern.MathFloatBits.float64bits:=by
 have e1:Extern.allNextRows.lookup "math.Float64bits"=none:=by decide +kernel
 have e2:Extern.allNextRows.lookup ""=none:=by decide +kernel
 have e3:Extern.allGenericRows.lookup "math.Float64bits"=none:=by rfl
 have e4:Extern.allTypedRows.lookup "math.Float64bits"=none:=by rfl
 have e5:Extern.allRows.lookup "math.Float64bits"=some Extern.MathFloatBits.float64bits:=by rfl
 constructor
 ·unfold Extern.findNext;rw [hn,ho];simp only [e1,e2];rfl
 ·unfold Extern.find;rw [hn];simp only [e3,e4,e5];rfl
theorem find_b2f {fn:Func} (hn:fn.name="math.Float64frombits") (ho:fn.origin=""):Extern.findNext fn=none∧Extern.find fn=some Extern.MathFloatBits.float64frombits:=by
 have e1:Extern.allNextRows.lookup "math.Float64frombits"=none:=by decide +kernel
 have e2:Extern.allNextRows.lookup ""=none:=by decide +kernel
 have e3:Extern.allGenericRows.lookup "math.Float64frombits"=none:=by rfl
 have e4:Extern.allTypedRows.lookup "math.Float64frombits"=none:=by rfl
 have e5:Extern.allRows.lookup "math.Float64frombits"=some Extern.MathFloatBits.float64frombits:=by rfl
 constructor
 ·unfold Extern.findNext;rw [hn,ho];simp only [e1,e2];rfl
 ·unfold Extern.find;rw [hn];simp only [e3,e4,e5];rfl
theorem run_callFunc_ext {P:Program} {w:World} {f:FuncId} {fn:Func} {vs:Array Value} {x:Array Value→Sem Value} {v:Value} (h1:P.funcs[f]?=some fn) (h2:(fn.name=="runtime.NumGoroutine")=false) (h3:fn.body.isNone=true) (hn:Extern.findNext fn=none) (he:Extern.find fn=some x) (hv:(x vs).run P w=.ok v w):(callFunc f vs).run P w=.ok (.value v) w:=by
 have em:(mark (.extern f)).run P w=.ok () w:=rfl
 simp only [callFunc,Sem.run_bind,run_program,Result.andThen_ok,h1,h2,h3,Bool.false_eq_true,if_false,if_true,em,hn,he,hv,Sem.run_pure]
section
variable {P:Program} {h h':AHeap} {β:Pl} {w:World} {e:Env} {a:Act} {o:Oper} {av:AVal} (G:Good P h β w e a.tmps)
 include G
theorem sim_fbin {op : BinOp} {t u : TypeId} {x y : Operand} {ax ay : AOpd} (ho : o.op = .binOp op t x y u)
    (hx:cOpd P x=some ax) (hy:cOpd P y=some ay) (he:aop e h (.fbin op ax ay)=some (av,h')):Did P o a.eval h β w av h':=by
  simp only [aop,opFbin] at he
  have rx:=opd_vrel G hx
  have ry:=opd_vrel G hy
  split at he
  · rename_i k p l q hh1 hh2
    rw [hh1] at rx;rw [hh2] at ry
    simp only [vrel] at rx ry
    obtain ⟨p',rx,ep⟩:=rx
    obtain ⟨q',ry,eq⟩:=ry
    cases hk:fkEq k l with
    | false=>rw [hk] at he;cases he
    | true =>
      obtain rfl:=fkEq_ok hk
      rw [hk] at he
      simp only [cond_true,Option.map_eq_some_iff,Prod.mk.injEq] at he
      obtain ⟨n,hn,rfl,rfl⟩:=he
      obtain ⟨m,w',hr,hm,hw⟩:=farith_run (P:=P) (w:=w) (t:=t) ep eq hn
      have e4:eqGuard op t x y (.float k p') (.float k q')=Pure.pure ():=by cases op<;>rfl
      have hrun:(execOp a.eval o).run P w=.ok (.value (.float k m)) w':=by
        unfold execOp;rw [ho]
        simp only [Sem.run_bind,rx,ry,e4,hr,Sem.run_pure,Result.andThen_ok]
      obtain ⟨R,X⟩:=G.rel.same (w':=w') (by rcases hw with rfl | rfl<;>rfl) (by rcases hw with rfl | rfl<;>rfl) (by rcases hw with rfl | rfl<;>rfl)
      exact .val hrun (by simp only [vrel];exact ⟨m,rfl,hm⟩) R X
  · cases he
theorem sim_i2f {s d : TypeId} {ks : IntKind} {k : FloatKind} {x : Operand} {ax : AOpd} (ho : o.op = .convert s d x) (hs : P.underlying s = some (.int ks)) (hd : P.underlying d = some (.float k)) (hx : cOpd P x = some ax)
    (he:aop e h (.i2f k ax)=some (av,h')):Did P o a.eval h β w av h':=by
  simp only [aop,opI2f] at he
  have rx:=opd_vrel G hx
  split at he
  · rename_i k' n hh
    simp only [Option.some.injEq,Prod.mk.injEq] at he
    obtain ⟨rfl,rfl⟩:=he
    rw [hh] at rx
    simp only [vrel] at rx
    refine .pure (v:=.float k (k.nearest n)) G.rel ?_ (by simp only [vrel];exact ⟨_,rfl,fltEq_refl _ _⟩)
    unfold execOp;rw [ho]
    simp only [convert,Sem.run_bind,rx,run_underlying_of hs,run_underlying_of hd,Result.andThen_ok,Conv.intToFloat,Sem.run_pure]
  · cases he
theorem sim_f2i {s d : TypeId} {ks : FloatKind} {k : IntKind} {x : Operand} {ax : AOpd} (ho : o.op = .convert s d x) (hs : P.underlying s = some (.float ks)) (hd : P.underlying d = some (.int k)) (hx : cOpd P x = some ax)
    (he:aop e h (.f2i k ax)=some (av,h')):Did P o a.eval h β w av h':=by
  simp only [aop,opF2i] at he
  have rx:=opd_vrel G hx
  split at he
  · rename_i l n hh
    simp only [Option.map_eq_some_iff,Prod.mk.injEq] at he
    obtain ⟨m,hm,rfl,rfl⟩:=he
    rw [hh] at rx
    simp only [vrel] at rx
    obtain ⟨n',rx,en⟩:=rx
    have hr:=f2iF_run (P:=P) (w:=w) en hm
    refine .pure (v:=.int k m) G.rel ?_ (by simp [vrel])
    unfold execOp;rw [ho]
    simp only [convert,Sem.run_bind,rx,run_underlying_of hs,run_underlying_of hd,Result.andThen_ok,hr,Sem.run_pure]
  · cases he
theorem sim_ext {c:Call} {f:Operand} {k:Nat} {ao:AOp} (ho:o.op=.call c) (hc:c.callee=.value f) (hk:extK P f=some k) (hao:cExt P k c.args.toList=some ao) (he:aop e h ao=some (av,h')):Did P o a.eval h β w av h':=by
 unfold extK at hk
 split at hk
 ·rename_i g
  simp only [Option.bind_eq_some_iff] at hk
  obtain ⟨fn,hfn,hk⟩:=hk
  split at hk
  ·rename_i hb
   simp only [Bool.and_eq_true,beq_iff_eq] at hb
   unfold cExt at hao
   split at hao
   ·rename_i x hx1
    simp only [Option.map_eq_some_iff] at hao
    obtain ⟨ax,hx,hao⟩:=hao
    have rx:=opd_vrel G hx
    have hargs:=arr1 hx1
    have go:∀ {r:Array Value→Sem Value} {v:Value},(fn.name=="runtime.NumGoroutine")=false→Extern.findNext fn=none→Extern.find fn=some r→(r #[a.eval x]).run P w=.ok v w→(execOp a.eval o).run P w=.ok (.value v) w:=by
     intro r v q1 q2 q3 q4
     unfold execOp;rw [ho]
     simp only [resolve,hc,hargs,Act.eval,Deferred.ofValue,Sem.run_bind,Sem.run_pure,Result.andThen_ok,invoke,List.map_toArray,List.map_cons,List.map_nil,Array.append_empty,Array.empty_append]
     exact run_callFunc_ext hfn q1 hb.1 q2 q3 q4
    split at hk
    ·rename_i hn
     simp only [beq_iff_eq] at hn
     cases hk
     obtain ⟨q2,q3⟩:=find_f2b hn hb.2
     simp only [if_true] at hao
     subst hao
     simp only [aop,opF2b] at he
     split at he
     ·rename_i n hh
      split at he
      ·cases he
      ·rename_i hnan
       simp only [Option.some.injEq,Prod.mk.injEq] at he
       obtain ⟨rfl,rfl⟩:=he
       rw [hh] at rx
       simp only [vrel] at rx
       obtain ⟨m,rx,em⟩:=rx
       have e2:m=n:=by
        rcases em with e | ⟨e,_⟩
        ·exact e
        ·exact absurd e hnan
       subst e2
       exact .pure G.rel (go (by rw [hn];decide) q2 q3 (by rw [rx];rfl)) (by simp [vrel])
     ·cases he
    ·split at hk
     ·rename_i hn
      simp only [beq_iff_eq] at hn
      cases hk
      obtain ⟨q2,q3⟩:=find_b2f hn hb.2
      rw [if_neg (by decide)] at hao
      subst hao
      simp only [aop,opB2f] at he
      split at he
      ·rename_i n hh
       simp only [Option.some.injEq,Prod.mk.injEq] at he
       obtain ⟨rfl,rfl⟩:=he
       rw [hh] at rx
       simp only [vrel] at rx
       exact .pure G.rel (go (by rw [hn];decide) q2 q3 (by rw [rx];rfl)) (by simp only [vrel];exact ⟨_,rfl,fltEq_refl _ _⟩)
      ·cases he
     ·cases hk
   ·cases hao
  ·cases hk
 ·cases hk
end
end Go.AM
namespace Go.AM
set_option linter.unusedVariables false
set_option linter.unusedSimpArgs false
theorem sim_op {P : Program} {h h' : AHeap} {β : Pl} {w : World} {e : Env} {a : Act} {o : Oper} {av : AVal} (G : Good P h β w e a.tmps) {ao : AOp} (hc : cOp P o.op = some ao) (he : aop e h ao = some (av, h')) :
    Did P o a.eval h β w av h':=by
  cases hop:o.op with
  | move x =>
    rw [hop] at hc;simp only [cOp,Option.map_eq_some_iff] at hc
    obtain ⟨ax,hx,rfl⟩:=hc;exact sim_mov G (.inl hop) hx he
  | assign x =>
    rw [hop] at hc;simp only [cOp,Option.map_eq_some_iff] at hc
    obtain ⟨ax,hx,rfl⟩:=hc;exact sim_mov G (.inr hop) hx he
  | pick c x y =>
    rw [hop] at hc;simp only [cOp,Option.map_eq_some_iff,Option.bind_eq_some_iff] at hc
    obtain ⟨ac,h1,ax,h2,ay,h3,rfl⟩:=hc;exact sim_pick G hop h1 h2 h3 he
  | alloc t =>
    rw [hop] at hc;simp only [cOp,Option.map_eq_some_iff] at hc
    obtain ⟨z,hz,rfl⟩:=hc;exact sim_alloc G hop hz he
  | box t x =>
    rw [hop] at hc;simp only [cOp,Option.map_eq_some_iff] at hc
    obtain ⟨ax,hx,rfl⟩:=hc;exact sim_box G hop hx he
  | build t ps=>rw [hop] at hc;exact sim_build G hop hc he
  | buildSlice t n ps =>
    rw [hop] at hc;simp only [cOp,Option.bind_eq_some_iff,Prod.exists] at hc
    obtain ⟨E,hE,s,b,z,hi,hc⟩:=hc
    split at hc
    · rename_i hn
      simp only [Option.map_eq_some_iff] at hc
      obtain ⟨qs,hq,rfl⟩:=hc
      exact sim_buildSlice G hop hE hi hn hq he
    · simp at hc
  | insert t m k v =>
    rw [hop] at hc;simp only [cOp,Option.bind_eq_some_iff,Option.map_eq_some_iff] at hc
    obtain ⟨kk,hk,am,h1,ak,h2,avv,h3,rfl⟩:=hc
    exact sim_mapUpd G (.inr hop) hk h1 h2 h3 he
  | load t x =>
    rw [hop] at hc;simp only [cOp,Option.bind_eq_some_iff,Option.map_eq_some_iff] at hc
    obtain ⟨n,hn,ax,hx,rfl⟩:=hc;exact sim_load G hop hn hx he
  | store t x y =>
    rw [hop] at hc;simp only [cOp,Option.bind_eq_some_iff,Option.map_eq_some_iff] at hc
    obtain ⟨n,hn,ax,hx,ay,hy,rfl⟩:=hc;exact sim_store G hop hn hx hy he
  | ready g=>rw [hop] at hc;simp [cOp] at hc
  | waits g=>rw [hop] at hc;simp [cOp] at hc
  | nilCheck x =>
    rw [hop] at hc;simp only [cOp,Option.map_eq_some_iff] at hc
    obtain ⟨ax,hx,rfl⟩:=hc;exact sim_nilCheck G hop hx he
  | binOp op t x y u =>
    rw [hop] at hc;simp only [cOp] at hc
    split at hc
    · simp only [Option.bind_eq_some_iff,Option.map_eq_some_iff] at hc
      obtain ⟨ax,hx,ay,hy,rfl⟩:=hc;exact sim_fbin G hop hx hy he
    · simp only [Option.bind_eq_some_iff,Option.map_eq_some_iff] at hc
      obtain ⟨ax,hx,ay,hy,rfl⟩:=hc;exact sim_fbin G hop hx hy he
    · simp only [Option.bind_eq_some_iff,Option.map_eq_some_iff] at hc
      obtain ⟨ax,hx,ay,hy,rfl⟩:=hc;exact sim_fbin G hop hx hy he
    · simp only [Option.bind_eq_some_iff,Option.map_eq_some_iff] at hc
      obtain ⟨ax,hx,ay,hy,rfl⟩:=hc;exact sim_fbin G hop hx hy he
    · simp only [Option.bind_eq_some_iff,Option.map_eq_some_iff] at hc
      obtain ⟨ax,hx,ay,hy,rfl⟩:=hc;exact sim_bin G hop hx hy he
    · simp only [Option.bind_eq_some_iff,Option.map_eq_some_iff] at hc
      obtain ⟨ax,hx,ay,hy,rfl⟩:=hc;exact sim_bin G hop hx hy he
    · simp only [Option.bind_eq_some_iff,Option.map_eq_some_iff] at hc
      obtain ⟨ax,hx,ay,hy,rfl⟩:=hc;exact sim_bin G hop hx hy he
    · simp only [Option.bind_eq_some_iff] at hc
      obtain ⟨k,hk,hc⟩:=hc
      split at hc
      · simp only [Option.bind_eq_some_iff,Option.map_eq_some_iff] at hc
        obtain ⟨ax,hx,ay,hy,rfl⟩:=hc
        exact sim_eql G (neg:=false) hop hk (fun _=>rfl) hx hy he
      · simp at hc
    · simp only [Option.bind_eq_some_iff] at hc
      obtain ⟨k,hk,hc⟩:=hc
      split at hc
      · simp only [Option.bind_eq_some_iff,Option.map_eq_some_iff] at hc
        obtain ⟨ax,hx,ay,hy,rfl⟩:=hc
        exact sim_eql G (neg:=true) hop hk (fun _=>rfl) hx hy he
      · simp at hc
    · rename_i hni
      simp only [Option.bind_eq_some_iff,Option.map_eq_some_iff] at hc
      obtain ⟨k,hk,ax,hx,ay,hy,rfl⟩:=hc
      exact sim_eql G (neg:=false) hop hk (fun ⟨ms,hu⟩=>by exfalso;simp_all) hx hy he
    · rename_i hni
      simp only [Option.bind_eq_some_iff,Option.map_eq_some_iff] at hc
      obtain ⟨k,hk,ax,hx,ay,hy,rfl⟩:=hc
      exact sim_eql G (neg:=true) hop hk (fun ⟨ms,hu⟩=>by exfalso;simp_all) hx hy he
    · simp at hc
  | unOp op t x =>
    rw [hop] at hc;simp only [cOp,Option.map_eq_some_iff] at hc
    obtain ⟨ax,hx,rfl⟩:=hc;exact sim_un G hop hx he
  | convert s d x =>
    rw [hop] at hc;simp only [cOp] at hc
    split at hc
    · rename_i hs hd
      simp only [Option.map_eq_some_iff] at hc
      obtain ⟨ax,hx,rfl⟩:=hc;exact sim_conv G hop hs hd hx he
    · rename_i hs hd
      simp only [Option.map_eq_some_iff] at hc
      obtain ⟨ax,hx,rfl⟩:=hc;exact sim_i2f G hop hs hd hx he
    · rename_i hs hd
      simp only [Option.map_eq_some_iff] at hc
      obtain ⟨ax,hx,rfl⟩:=hc;exact sim_f2i G hop hs hd hx he
    · rename_i hs hd
      split at hc
      · rename_i hE
        simp only [Option.map_eq_some_iff] at hc
        obtain ⟨ax,hx,rfl⟩:=hc;exact sim_b2s G hop hs hE hd hx he
      · simp at hc
    · simp at hc
  | sliceToArrayPointer t x=>rw [hop] at hc;simp [cOp] at hc
  | makeInterface t x =>
    rw [hop] at hc;simp only [cOp] at hc
    split at hc
    · simp at hc
    · rename_i d hn hd
      simp only [Option.map_eq_some_iff] at hc
      obtain ⟨ax,hx,rfl⟩:=hc;exact sim_mkIface G hop hd (fun ms e=>hn ms (by rw [←e])) hx he
    · simp at hc
  | makeFunc f x y =>
    rw [hop] at hc;simp only [cOp,Option.bind_eq_some_iff,Option.map_eq_some_iff] at hc
    obtain ⟨ax,hx,ay,hy,rfl⟩:=hc;exact sim_mkFn G hop hx hy he
  | makeMap t r =>
    rw [hop] at hc
    cases r with
    | none =>
      simp only [cOp] at hc
      split at hc
      · rename_i hu;simp only [Option.some.injEq] at hc;subst hc;exact sim_mkMap G hop hu he
      · simp at hc
    | some r=>simp [cOp] at hc
  | makeChan t s=>rw [hop] at hc;simp [cOp] at hc
  | makeSlice t l c =>
    rw [hop] at hc;simp only [cOp] at hc
    split at hc
    · rename_i hlc
      simp only [Option.bind_eq_some_iff,Option.map_eq_some_iff,Prod.exists] at hc
      obtain ⟨E,hE,s,b,z,hi,al,hl,rfl⟩:=hc
      refine sim_mkSlice G hop ?_ hE hi hl he
      unfold sameOpd at hlc
      split at hlc
      · simp only [beq_iff_eq] at hlc;subst hlc;rfl
      · simp only [decide_eq_true_eq] at hlc;obtain ⟨rfl,rfl⟩:=hlc;rfl
      · simp at hlc
    · simp at hc
  | slice t x lo hi mx =>
    rw [hop] at hc
    cases mx with
    | none =>
      simp only [cOp,Option.bind_eq_some_iff] at hc
      obtain ⟨E,hE,s,hs,hc⟩:=hc
      split at hc
      · simp only [Option.bind_eq_some_iff,Option.map_eq_some_iff] at hc
        obtain ⟨ax,hx,al,hl,ah,hh,rfl⟩:=hc
        exact sim_slice G hop (elemT_of hE) hs hx hl hh he
      · simp at hc
    | some m=>simp [cOp] at hc
  | fieldAddr t x i =>
    rw [hop] at hc;simp only [cOp,Option.bind_eq_some_iff] at hc
    obtain ⟨f,hf,hc⟩:=hc
    split at hc
    · rename_i s hs
      simp only [Option.map_eq_some_iff] at hc
      obtain ⟨ax,hx,rfl⟩:=hc;exact sim_fieldAddr G hop hf hs hx he
    · simp at hc
  | field t x i =>
    rw [hop] at hc;simp only [cOp,Option.bind_eq_some_iff,Option.map_eq_some_iff] at hc
    obtain ⟨f,hf,n,hn,ax,hx,rfl⟩:=hc;exact sim_field G hop hf hn hx he
  | indexAddr t x i =>
    rw [hop] at hc;simp only [cOp] at hc
    split at hc
    · rename_i E hu
      split at hc
      · rename_i s hs
        simp only [Option.bind_eq_some_iff,Option.map_eq_some_iff] at hc
        obtain ⟨ax,hx,ay,hy,rfl⟩:=hc;exact sim_idxS G hop hu hs hx hy he
      · simp at hc
    · rename_i n E hu
      split at hc
      · rename_i s hs
        simp only [Option.bind_eq_some_iff,Option.map_eq_some_iff] at hc
        obtain ⟨ax,hx,ay,hy,rfl⟩:=hc;exact sim_idxA G hop hu hs hx hy he
      · simp at hc
    · simp at hc
  | index t x i =>
    rw [hop] at hc;simp only [cOp] at hc
    split at hc
    · rename_i hu
      simp only [Option.bind_eq_some_iff,Option.map_eq_some_iff] at hc
      obtain ⟨ax,hx,ay,hy,rfl⟩:=hc;exact sim_indexStr G hop hu hx hy he
    · rename_i n E hu
      simp only [Option.bind_eq_some_iff,Option.map_eq_some_iff] at hc
      obtain ⟨s,hs,m,hm,ax,hx,ay,hy,rfl⟩:=hc;exact sim_index G hop hu hs hm hx hy he
    · simp at hc
  | lookup t m k ok =>
    rw [hop] at hc;simp only [cOp] at hc
    split at hc
    · rename_i kt el hu
      simp only [Option.bind_eq_some_iff,Option.map_eq_some_iff] at hc
      obtain ⟨kk,hk,z,hz,am,hm,ak,hkk,rfl⟩:=hc
      exact sim_lookup G hop hu hk hz hm hkk he
    · simp at hc
  | mapUpdate t m k v =>
    rw [hop] at hc;simp only [cOp,Option.bind_eq_some_iff,Option.map_eq_some_iff] at hc
    obtain ⟨kk,hk,am,h1,ak,h2,avv,h3,rfl⟩:=hc
    exact sim_mapUpd G (.inl hop) hk h1 h2 h3 he
  | mapEntry t m k=>rw [hop] at hc;simp [cOp] at hc
  | entryStore t m s v=>rw [hop] at hc;simp [cOp] at hc
  | range t x=>rw [hop] at hc;simp [cOp] at hc
  | next it s=>rw [hop] at hc;simp [cOp] at hc
  | entry it=>rw [hop] at hc;simp [cOp] at hc
  | typeAssert x xt t ok =>
    rw [hop] at hc;simp only [cOp] at hc
    split at hc
    · simp at hc
    · rename_i d hn hd
      simp only [Option.bind_eq_some_iff,Option.map_eq_some_iff] at hc
      obtain ⟨z,hz,ax,hx,rfl⟩:=hc;exact sim_assertT G hop hd (fun ms e=>hn ms (by rw [←e])) hz hx he
    · simp at hc
  | extract x i =>
    rw [hop] at hc;simp only [cOp,Option.map_eq_some_iff] at hc
    obtain ⟨ax,hx,rfl⟩:=hc;exact sim_extract G hop hx he
  | call c =>
    rw [hop] at hc;simp only [cOp] at hc
    split at hc
    · rename_i hcal
      split at hc
      · rename_i x t h1 h2
        split at hc
        · rename_i hu;simp only [Option.map_eq_some_iff] at hc;obtain ⟨ax,hx,rfl⟩:=hc;exact sim_lenS G hop hcal h1 h2 hu hx he
        · rename_i hu;simp only [Option.map_eq_some_iff] at hc;obtain ⟨ax,hx,rfl⟩:=hc;exact sim_lenT G hop hcal h1 h2 hu hx he
        · rename_i hu;simp only [Option.map_eq_some_iff] at hc;obtain ⟨ax,hx,rfl⟩:=hc;exact sim_lenM G hop hcal h1 h2 hu hx he
        · simp at hc
      · simp at hc
    · rename_i hcal
      split at hc
      · rename_i h1
        simp only [Option.bind_eq_some_iff,Option.map_eq_some_iff] at hc
        obtain ⟨ax,hx,ay,hy,rfl⟩:=hc;exact sim_min G hop hcal h1 hx hy he
      · simp at hc
    · rename_i hcal
      split at hc
      · rename_i h1
        simp only [Option.bind_eq_some_iff,Option.map_eq_some_iff] at hc
        obtain ⟨ax,hx,ay,hy,rfl⟩:=hc;exact sim_max G hop hcal h1 hx hy he
      · rename_i h1
        simp only [Option.bind_eq_some_iff,Option.map_eq_some_iff] at hc
        obtain ⟨ax,hx,ay,hy,az,hz,rfl⟩:=hc;exact sim_max3 G hop hcal h1 hx hy hz he
      · simp at hc
    · rename_i hcal
      split at hc
      · rename_i h1 h2
        simp only [Option.bind_eq_some_iff,Prod.exists] at hc
        obtain ⟨E,hE,sz,b,z,hi,hc⟩:=hc
        split at hc
        · rename_i d hd
          simp only [Option.bind_eq_some_iff,Option.map_eq_some_iff] at hc
          obtain ⟨ax,hx,ay,hy,rfl⟩:=hc
          exact sim_append G hop hcal h1 h2 hE hi hd (by intro k e;cases e) hx hy he
        · rename_i hd
          simp only [Option.bind_eq_some_iff,Option.map_eq_some_iff] at hc
          obtain ⟨ax,hx,ay,hy,rfl⟩:=hc
          exact sim_append G hop hcal h1 h2 hE hi hd (by intro k e;cases e) hx hy he
        · simp at hc
      · simp at hc
    · rename_i hcal
      split at hc
      · rename_i h1 h2
        simp only [Option.bind_eq_some_iff] at hc
        obtain ⟨E,hE,hc⟩:=hc
        split at hc
        · rename_i sz hs
          simp only [Option.bind_eq_some_iff,Option.map_eq_some_iff] at hc
          obtain ⟨ax,hx,ay,hy,rfl⟩:=hc
          exact sim_copy G hop hcal h1 h2 hE hs hx hy he
        · simp at hc
      · simp at hc
    · rename_i hcal
      split at hc
      · rename_i hk
        exact sim_ext G hop hcal hk hc he
      · simp at hc
    · rename_i hcal
      split at hc
      · rename_i h1 h2
        simp only [Option.bind_eq_some_iff,Option.map_eq_some_iff] at hc
        obtain ⟨kk,hk,am,hm,ak,hkk,rfl⟩:=hc
        exact sim_delete G hop hcal h1 h2 hk hm hkk he
      · simp at hc
    · simp at hc
  | go c=>rw [hop] at hc;simp [cOp] at hc
  | defer c=>rw [hop] at hc;simp [cOp] at hc
  | panic x=>rw [hop] at hc;simp [cOp] at hc
  | send c x=>rw [hop] at hc;simp [cOp] at hc
  | recv t c ok=>rw [hop] at hc;simp [cOp] at hc
  | select cs b=>rw [hop] at hc;simp [cOp] at hc
def resRel (h:AHeap) (β:Pl):ARes→Ending→Prop
 | .ret v,e=>∃ x,e=.returned x∧vrel h β v x
 | .panic v,e=>∃ x,e=.panicked [{ v:=x,recovered:=false }]∧vrel h β v x
def exitRel (h:AHeap) (β:Pl):AExit→Exit→Prop
 | .normal,e=>e=.normal
 | .exit id,e=>e=.exit id
 | .ret,e=>e=.ret
 | .panic v,e=>∃ x,e=.panic [{ v:=x,recovered:=false }]∧vrel h β v x
abbrev fen (ρ:Option Nat):Fence:={ Fence.wide with round:=ρ }
def SoundYld (P:Program) (r:Rec):Prop :=
 ∀ id args h v h',r.yld id args h=some (.ret v,h')→∀ β w (vs:Array Value) (ρ:Option Nat),Rel h β w→GOk P h→vrels h β args vs.toList →
  h.gen id=0∧∃ f tmps asg body,(Instr.yield (β id).b vs).run P w=.ok (.round (β id).b f tmps asg body) w ∧
   RoundIn (fen ρ) 0 P (β id).b f tmps asg body w fun e w'=>∃ β',Rel h' β' w'∧Ext h β w h' β' w'∧resRel h' β' (.ret v) e
def SoundCall (P:Program) (r:Rec):Prop:=SoundYld P r ∧
 ∀ f args h res h',r.call f args h=some (res,h')→(∃ fn,P.funcs[f]?=some fn∧(fn.name=="runtime.NumGoroutine")=false∧fn.body.isNone=false)∧∀ β w (vs:Array Value),Rel h β w→GOk P h→vrels h β args vs.toList →
  Calls P f vs w fun e w'=>∃ β',Rel h' β' w'∧Ext h β w h' β' w'∧resRel h' β' res e
def Fin (P:Program) (N:Nat) (h:AHeap) (β:Pl) (w:World) (ds:List Deferred) (x:AExit) (s:St) (ex:Exit) (a:Act) (w':World):Prop :=
 ∃ β',Good P s.h β' w' s.e a.tmps∧Ext h β w s.h β' w'∧a.defers=ds∧N≤a.tmps.size∧exitRel s.h β' x ex
theorem Fin.trans {P : Program} {N : Nat} {h : AHeap} {β : Pl} {w : World} {h1 : AHeap} {β1 : Pl} {w1 : World} {ds : List Deferred} {x : AExit} {s : St} {ex : Exit} {a : Act} {w' : World}
    (X:Ext h β w h1 β1 w1) (F:Fin P N h1 β1 w1 ds x s ex a w'):Fin P N h β w ds x s ex a w':=by
  obtain ⟨β',G,X',r⟩:=F
  exact ⟨β',G,X.trans X',r⟩
theorem put_good {P : Program} {h h' : AHeap} {β β' : Pl} {w w' : World} {e : Env} {a : Act} {N : Nat} (G : Good P h β w e a.tmps) (R : Rel h' β' w') (X : Ext h β w h' β' w') (hN : N ≤ a.tmps.size) {dst : Option Nat} (hd : ∀ d, dst = some d → d < N)
    {av:AVal} {v:Value} (hv:vrel h' β' av v):Good P h' β' w' (put e dst av) (a.put dst v).tmps∧N≤(a.put dst v).tmps.size∧(a.put dst v).defers=a.defers:=by
  cases dst with
  | none=>exact ⟨⟨R,fun t=>vrel.mono X.ext (G.env t),G.g.ext X⟩,hN,rfl⟩
  | some d =>
    have hdN:=hd d rfl
    refine ⟨⟨R,fun t=>?_,G.g.ext X⟩,by simpa [Act.put] using hN,rfl⟩
    simp only [put,Env.val,Tr.get_set,Act.put,Array.getD_eq_getD_getElem?,Array.getElem?_setIfInBounds]
    by_cases ht:t=d
    · subst ht
      rw [if_pos rfl,if_pos rfl,if_pos (by omega)]
      exact hv
    · rw [if_neg ht,if_neg (Ne.symm ht)]
      have:=G.env t
      simp only [Env.val,Array.getD_eq_getD_getElem?] at this
      exact vrel.mono X.ext this
theorem wanted_of {P : Program} {h : AHeap} {β : Pl} {w : World} {e : Env} {a : Act} (G : Good P h β w e a.tmps) {ops : Array Oper} {g : Option (Nat × Bool)} {ag : Option (Nat × Bool)} (hg : cGuard ops g = some ag) {N : Nat} (hN : N ≤ a.tmps.size)
    (hb:∀ t b,ag=some (t,b)→t<N) {b:Bool} (hw:wanted e ag=some b) {o:Oper} (ho:o.guard=g):Region.wanted o (yielded ops a.tmps)=b:=by
  cases g with
  | none =>
    simp only [cGuard,Option.some.injEq] at hg
    subst hg
    simp only [wanted,Option.some.injEq] at hw
    subst hw
    simp [Region.wanted,ho]
  | some jb =>
    obtain ⟨j,want⟩:=jb
    simp only [cGuard,Option.map_eq_some_iff] at hg
    obtain ⟨t,ht,rfl⟩:=hg
    have htN:=hb t want rfl
    have hr:=G.env t
    have hgt:a.tmps[t]?=some (a.tmps.getD t undef):=by
      rw [Array.getD_eq_getD_getElem?,Array.getElem?_eq_getElem (by omega)];rfl
    simp only [wanted] at hw
    simp only [Region.wanted,ho,yielded,ht,Option.bind_some,hgt]
    split at hw
    · rename_i c hc
      rw [hc] at hr
      simp only [vrel] at hr
      rw [hr]
      simp only [Option.some.injEq] at hw
      rw [←hw]
      cases c<;>cases want<;>rfl
    · rename_i vs hc
      rw [hc] at hr
      simp only [vrel] at hr
      obtain ⟨x',ex,_⟩:=hr
      rw [ex]
      simp only [Option.some.injEq] at hw
      rw [←hw]
      cases want<;>rfl
    · simp at hw
theorem cInstrs_mem {P:Program} {N:Nat} {ops:Array Oper}:∀ {os:List Oper} {is:List AInstr},cInstrs P N ops os=some is→∀ (k:Nat) (o:Oper),os[k]?=some o→∃ i:AInstr,is[k]?=some i∧cInstr P N ops o=some i
 | [],is,h,k,o,ho=>by simp at ho
 | p::os,is,h,k,o,ho=>by
  simp only [cInstrs,Option.bind_eq_some_iff,Option.map_eq_some_iff] at h
  obtain ⟨i,hi,is',h',rfl⟩:=h
  cases k with
  | zero=>simp at ho;subst ho;exact ⟨i,rfl,hi⟩
  | succ k=>simpa using cInstrs_mem h' k o (by simpa using ho)
theorem cOp_call {P:Program} {op:Op} {f:AOpd} {as:List AOpd} (h:cIOp P op=some (.call f as)):∃ c ef,op=.call c∧c.callee=.value ef∧cOpd P ef=some f∧cOpds P c.args.toList=some as:=by
 cases op
 case call c =>
  simp only [cIOp] at h
  split at h
  ·rename_i ef hcal
   split at h
   ·simp [Option.map_eq_some_iff] at h
   ·simp only [Option.bind_eq_some_iff,Option.map_eq_some_iff] at h
    obtain ⟨af,h1,as',h2,h3⟩:=h
    simp only [AIOp.call.injEq] at h3
    obtain ⟨rfl,rfl⟩:=h3
    exact ⟨c,ef,rfl,hcal,h1,h2⟩
  ·simp [Option.map_eq_some_iff] at h
 all_goals (simp [cIOp,Option.map_eq_some_iff] at h)
theorem cOp_panic {P:Program} {op:Op} {x:AOpd} (h:cIOp P op=some (.panic x)):∃ ex,op=.panic ex∧cOpd P ex=some x:=by
 cases op
 case panic e =>
  simp only [cIOp,Option.map_eq_some_iff] at h
  obtain ⟨ax,h1,h2⟩:=h
  simp only [AIOp.panic.injEq] at h2
  subst h2
  exact ⟨e,rfl,h1⟩
 case call c =>
  simp only [cIOp] at h
  split at h
  ·split at h
   ·simp [Option.map_eq_some_iff] at h
   ·simp [Option.bind_eq_some_iff] at h
  ·simp [Option.map_eq_some_iff] at h
 all_goals (simp [cIOp,Option.map_eq_some_iff] at h)
theorem cOp_plain {P:Program} {op:Op} {o:AOp} (h:cIOp P op=some (.op o)):cOp P op=some o:=by
 cases op
 case panic e=>simp [cIOp,Option.map_eq_some_iff] at h
 case call c =>
  simp only [cIOp] at h
  split at h
  ·split at h
   ·simpa [Option.map_eq_some_iff] using h
   ·simp [Option.bind_eq_some_iff] at h
  ·simpa [Option.map_eq_some_iff] using h
 all_goals (simpa [cIOp,Option.map_eq_some_iff] using h)
theorem run_callFunc_of {P:Program} {w:World} {f:FuncId} {fn:Func} {vs:Array Value} (h1:P.funcs[f]?=some fn) (h2:(fn.name=="runtime.NumGoroutine")=false) (h3:fn.body.isNone=false):(callFunc f vs).run P w=.ok (.enter f vs) w:=by
 simp only [callFunc,Sem.run_bind,run_program,Result.andThen_ok,h1,h2,h3,Bool.false_eq_true,if_false,Sem.run_pure]
theorem wpIn_of_run {P : Program} {ρ : Option Nat} {o : Oper} {a : Act} {w : World} {K : Act → World → Prop} {Q : Exit → Act → World → Prop} {r : Result Next} (hnd : ∀ c, o.op ≠ .defer c) (hr : (execOp a.eval o).run P w = r)
    (h:o.uponIn (fen ρ) 0 P a K Q r):o.wpIn (fen ρ) 0 P a w K Q :=
  ⟨fun _ _=>trivial,by rw [Oper.semAt_eq _ _ _ hnd,hr];exact h⟩
theorem enterIn_of {P : Program} {ρ : Option Nat} {f : FuncId} {args : Array Value} {w : World} {R : Ending → World → Prop} (h : Calls P f args w R) :
    ((fen ρ).depth.isSome=true→1≤0)∧CallsIn (fen ρ) (0-1) P f args w R :=
  ⟨fun h=>(by cases h),callsIn_wide.2 h⟩
theorem cIOp_nd {P:Program} {op:Op} {ao:AIOp} (h:cIOp P op=some ao):∀ c,op≠.defer c:=by
 intro c hc
 subst hc
 simp [cIOp,cOp] at h
theorem sim_instrs {P : Program} {r : Rec} (SC : SoundCall P r) {N : Nat} {ops : Array Oper} {ρ : Option Nat} {Q : Exit → Act → World → Prop} {tail : List Nat} : ∀ (os : List Oper) (is : List AInstr) (k : Nat), (∀ (j : Nat) (o : Oper), os[j]? = some o → ops[k + j]? = some o) → cInstrs P N ops os = some is →
    ∀ (s:St) (x:AExit) (s':St),exIs r is s=some (x,s')→∀ (β:Pl) (w:World) (a:Act),Good P s.h β w s.e a.tmps→N≤a.tmps.size →
      (x=.normal→∀ a' w',Fin P N s.h β w a.defers x s' .normal a' w'→wpOpsIn (fen ρ) 0 P ops Q tail a' w') →
      (x≠.normal→∀ ex a' w',Fin P N s.h β w a.defers x s' ex a' w'→Q ex a' w')→wpOpsIn (fen ρ) 0 P ops Q (List.range' k os.length++tail) a w
  | [],is,k,hd,hc,s,x,s',he,β,w,a,G,hN,hT,hQ=>by
    simp only [cInstrs,Option.some.injEq] at hc
    subst hc
    simp only [exIs,Option.some.injEq,Prod.mk.injEq] at he
    obtain ⟨rfl,rfl⟩:=he
    simp only [List.length_nil,List.range'_zero,List.nil_append]
    exact hT rfl _ _ ⟨β,G,Ext.refl _ _ _,rfl,hN,rfl⟩
  | o::os,is,k,hd,hc,s,x,s',he,β,w,a,G,hN,hT,hQ=>by
    simp only [cInstrs,Option.bind_eq_some_iff,Option.map_eq_some_iff] at hc
    obtain ⟨i,hi,is',hc',rfl⟩:=hc
    have hdrop:∀ (j:Nat) (o':Oper),os[j]?=some o'→ops[(k+1)+j]?=some o':=fun j o' h=>by
      have:=hd (j+1) o' (by simpa using h)
      rwa [show k+(j+1)=(k+1)+j by omega] at this
    have hok:ops[k]?=some o:=by simpa using hd 0 o rfl
    simp only [cInstr] at hi
    split at hi
    · rename_i hcond
      simp only [Option.bind_eq_some_iff,Option.map_eq_some_iff] at hi
      obtain ⟨ao,hao,ag,hag,hi⟩:=hi
      split at hi
      case isFalse=>simp at hi
      rename_i hgc
      simp only [Option.some.injEq] at hi
      subst hi
      have hnd:=cIOp_nd hao
      have hdN:∀ d,o.dst=some d→d<N:=by
        intro d hd'
        rw [hd'] at hcond
        simpa [dstOk] using hcond
      have hgN:∀ t b,ag=some (t,b)→t<N:=by
        intro t b hh
        rw [hh] at hgc
        simpa [dstOk] using hgc
      simp only [List.length_cons,List.range'_succ,List.cons_append,wpOpsIn,hok]
      simp only [exIs] at he
      have on : ∀ (s1 : St), exIs r is' s1 = some (x, s') → ∀ (β1 : Pl) (w1 : World) (a1 : Act), Good P s1.h β1 w1 s1.e a1.tmps → N ≤ a1.tmps.size → a1.defers = a.defers → Ext s.h β w s1.h β1 w1 →
          wpOpsIn (fen ρ) 0 P ops Q (List.range' (k+1) os.length++tail) a1 w1:=fun s1 he1 β1 w1 a1 G1 hN1 hd1 X1 =>
        sim_instrs SC os is' (k+1) hdrop hc' s1 x s' he1 β1 w1 a1 G1 hN1 (fun hx a' w' F=>hT hx a' w' (by rw [hd1] at F;exact F.trans X1)) (fun hx ex a' w' F=>hQ hx ex a' w' (by rw [hd1] at F;exact F.trans X1))
      cases hw:wanted s.e ag with
      | none=>simp only [hw] at he;simp at he
      | some wb =>
        simp only [hw] at he
        have hwd:=wanted_of G hag hN hgN hw rfl
        cases wb with
        | false =>
          rw [if_neg (by rw [hwd];simp)]
          simp only at he
          obtain ⟨G',hN',hds⟩:=put_good (dst:=o.dst) (av:=.tup []) (v:=undef) G G.rel (Ext.refl _ _ _) hN hdN (by simp [vrel,vrels,undef])
          exact ⟨fun _ _=>trivial,on _ he β w _ G' hN' hds (Ext.refl _ _ _)⟩
        | true =>
          rw [if_pos hwd]
          simp only at he
          have plain:∀ (ao':AOp) (hao':cOp P o.op=some ao') (av:AVal) (h1:AHeap),aop s.e s.h ao'=some (av,h1)→exIs r is' { e:=put s.e o.dst av,h:=h1 }=some (x,s')→o.wpIn (fen ρ) 0 P a w (wpOpsIn (fen ρ) 0 P ops Q (List.range' (k+1) os.length++tail)) Q:=by
            intro ao' hao' av h1 ha hrest
            obtain ⟨w1,β1,hrun,R1,X1⟩:=sim_op G hao' ha
            rcases hrun with ⟨v,hrun,hv⟩ | ⟨hrun,hav⟩
            · refine wpIn_of_run hnd hrun ?_
              rw [Oper.uponIn_value]
              obtain ⟨G',hN',hds⟩:=put_good (dst:=o.dst) (av:=av) (v:=v) G R1 X1 hN hdN hv
              exact on _ hrest β1 w1 _ G' hN' hds X1
            · refine wpIn_of_run hnd hrun ?_
              rw [Oper.uponIn_skip]
              obtain ⟨G',hN',hds⟩:=put_good (dst:=o.dst) (av:=av) (v:=undef) G R1 X1 hN hdN (by rw [hav];simp [vrel])
              exact on _ hrest β1 w1 _ G' hN' hds X1
          split at he
          ·
            rename_i f args
            have hcall:=cOp_call hao
            obtain ⟨c,ef,hop,hcal,hef,hargs⟩:=hcall
            have rf:=opd_vrel G hef
            split at he
            · rename_i g first captured hfv
              rw [hfv] at rf
              simp only [vrel] at rf
              obtain ⟨fv,cv,efv,rfirst,rcap⟩:=rf
              have rargs:=opds_vrels G hargs
              have hall:vrels s.h β (first++args.map (opd s.e)++captured) (fv++c.args.map a.eval++cv).toList:=by
                simp only [Array.toList_append,Array.toList_map]
                exact vrels_append (vrels_append rfirst rargs) rcap
              have hexec:∀ fn,P.funcs[g]?=some fn→(fn.name=="runtime.NumGoroutine")=false→fn.body.isNone=false→(execOp a.eval o).run P w=.ok (.enter g (fv++c.args.map a.eval++cv)) w:=by
                intro fn q1 q2 q3
                unfold execOp;rw [hop]
                simp only [resolve,hcal,efv,Deferred.ofValue,Sem.run_bind,Sem.run_pure,Result.andThen_ok,invoke,run_callFunc_of q1 q2 q3]
              split at he
              · rename_i v h1 hcl
                obtain ⟨⟨fn,q1,q2,q3⟩,hsc⟩:=SC.2 _ _ _ _ _ hcl
                refine wpIn_of_run hnd (hexec fn q1 q2 q3) ?_
                rw [Oper.uponIn_enter]
                refine enterIn_of ((hsc β w _ G.rel G.g hall).mono ?_)
                rintro e w1 ⟨β1,R1,X1,hres⟩
                obtain ⟨v',rfl,hv⟩:=hres
                obtain ⟨G',hN',hds⟩:=put_good (dst:=o.dst) (av:=v) (v:=v') G R1 X1 hN hdN hv
                exact on _ he β1 w1 _ G' hN' hds X1
              · rename_i v h1 hcl
                obtain ⟨⟨fn,q1,q2,q3⟩,hsc⟩:=SC.2 _ _ _ _ _ hcl
                simp only [Option.some.injEq,Prod.mk.injEq] at he
                obtain ⟨rfl,rfl⟩:=he
                refine wpIn_of_run hnd (hexec fn q1 q2 q3) ?_
                rw [Oper.uponIn_enter]
                refine enterIn_of ((hsc β w _ G.rel G.g hall).mono ?_)
                rintro e w1 ⟨β1,R1,X1,hres⟩
                obtain ⟨v',rfl,hv⟩:=hres
                refine hQ (by intro h;cases h) _ _ _ ⟨β1,⟨R1,fun t=>vrel.mono X1.ext (G.env t),G.g.ext X1⟩,X1,rfl,hN,v',rfl,hv⟩
              · simp at he
            · rename_i id hfv
              rw [hfv] at rf
              simp only [vrel] at rf
              obtain ⟨b,efv,hid,hb⟩:=rf
              have rargs:=opds_vrels G hargs
              have hall:vrels s.h β (args.map (opd s.e)) (c.args.map a.eval).toList:=by
                simp only [Array.toList_map]
                exact rargs
              split at he
              · rename_i v h1 hcl
                obtain ⟨h0,f,tmps,asg,body,hrun,hround⟩:=SC.1 _ _ _ _ _ hcl β w _ ρ G.rel G.g hall
                obtain rfl:=hb h0
                have hexec:(execOp a.eval o).run P w=.ok (.round (β id).b f tmps asg body) w:=by
                  unfold execOp;rw [hop]
                  simp only [resolve,hcal,efv,Deferred.ofValue,Sem.run_bind,Sem.run_pure,Result.andThen_ok,invoke,Array.append_empty,Array.empty_append,hrun]
                refine wpIn_of_run hnd hexec ?_
                rw [Oper.uponIn_round]
                refine ⟨fun h=>(nomatch h),hround.mono ?_⟩
                rintro e w1 ⟨β1,R1,X1,hres⟩
                obtain ⟨v',rfl,hv⟩:=hres
                obtain ⟨G',hN',hds⟩:=put_good (dst:=o.dst) (av:=v) (v:=v') G R1 X1 hN hdN hv
                exact on _ he β1 w1 _ G' hN' hds X1
              · simp at he
            · simp at he
          ·
            rename_i xx
            obtain ⟨ex,hop,hex⟩:=cOp_panic hao
            have rx:=opd_vrel G hex
            split at he
            · rename_i t v hvv
              rw [hvv] at rx
              have rx':=rx
              simp only [vrel] at rx
              obtain ⟨v',ev,hv⟩:=rx
              simp only [Option.some.injEq,Prod.mk.injEq] at he
              obtain ⟨rfl,rfl⟩:=he
              have hrun:(execOp a.eval o).run P w=.halt (.panic (a.eval ex)) w:=by
                unfold execOp;rw [hop]
                simp only [Sem.run_bind,ev,Instr.panic,run_goPanic,Result.andThen_halt]
              refine wpIn_of_run hnd hrun ?_
              rw [Oper.uponIn_panic]
              exact hQ (by intro h;cases h) _ _ _ ⟨β,G,Ext.refl _ _ _,rfl,hN,_,rfl,rx'⟩
            · simp at he
          · rename_i op
            split at he
            · rename_i av h1' ha
              exact plain op (cOp_plain hao) av h1' ha he
            · simp at he
    · simp at hi
theorem sim_region {P : Program} {r : Rec} (SC : SoundCall P r) {N : Nat} {id : Nat} {ops : Array Oper} {ρ : Option Nat} {Q : Exit → Act → World → Prop} {is : List AInstr} (hc : cInstrs P N ops ops.toList = some is)
    {s s':St} {x:AExit} (he:exIs r is s=some (x,s')) {β:Pl} {w:World} {a:Act} (G:Good P s.h β w s.e a.tmps) (hN:N≤a.tmps.size)
    (hQ:∀ ex a' w',Fin P N s.h β w a.defers x s' ex a' w'→Q ex a' w'):(Code.region id ops false).wpIn (fen ρ) 0 P Q a w:=by
  refine wpIn_region ?_
  have:=sim_instrs (ρ:=ρ) (Q:=Q) (tail:=[]) SC ops.toList is 0 (fun j o h=>by simpa using h) hc s x s' he β w a G hN (fun _ a' w' F=>hQ _ a' w' F) (fun _ ex a' w' F=>hQ ex a' w' F)
  rw [List.range_eq_range']
  simpa using this
end Go.AM