/-
  AM, part 27: what each operation comes to, stage by stage, for a simplifier that goes through the machine's code.
-/
import Derived.Test.YtedomhceacongaaAmWp
namespace Go.AM
set_option linter.unusedSimpArgs false
set_option linter.unusedVariables false
variable {P : AProg}

/-! What comes next is kept as code, not as a function: so that a simplifier doesn't go there ahead of its time. -/
def opI (P : AProg) (o : Option (AVal × AHeap)) (d : Option Nat) (is : List AInstr) (Q : Env → AHeap → Prop) (e : Env) : Prop := wpOp o fun v h' => wpIs P is Q (put e d v) h'
def callI (P : AProg) (f : FuncId) (args : List AVal) (h : AHeap) (d : Option Nat) (is : List AInstr) (Q : Env → AHeap → Prop) (e : Env) : Prop := CallP P f args h fun v h' => wpIs P is Q (put e d v) h'
def fnI (P : AProg) (f : AVal) (args : List AVal) (h : AHeap) (d : Option Nat) (is : List AInstr) (Q : Env → AHeap → Prop) (e : Env) : Prop := wpFn P f args h fun v h' => wpIs P is Q (put e d v) h'
def gI (P : AProg) (v : AVal) (b : Bool) (d : Option Nat) (i : AIOp) (is : List AInstr) (Q : Env → AHeap → Prop) (e : Env) (h : AHeap) : Prop :=
  wpG (match v with | .bool c => some (c == b) | .tup _ => some false | _ => none) (wpIs P (⟨d, i, none⟩ :: is) Q e h) (wpIs P is Q (put e d (.tup [])) h)
def cI (P : AProg) (v : AVal) (a b : ACode) (Q : Post) (e : Env) (h : AHeap) : Prop := wpC v (wp P a Q e h) (wp P b Q e h)
def loopI (P : AProg) (b : ACode) (Q : Post) (e : Env) (h : AHeap) : Prop := wp P (.loop b) Q e h

/-- What comes behind, with what comes behind that written once. -/
def seqC (P : AProg) (b : ACode) (Q : Post) : Post := seqQ (wp P b Q) Q

theorem w_skip (Q : Post) (e : Env) (h : AHeap) : wp P .skip Q e h = Q .normal e h := rfl
theorem w_region (is : List AInstr) (Q : Post) (e : Env) (h : AHeap) : wp P (.region is) Q e h = wpIs P is (Q .normal) e h := rfl
theorem w_seq (a b : ACode) (Q : Post) (e : Env) (h : AHeap) : wp P (.seq a b) Q e h = wp P a (seqC P b Q) e h := rfl
theorem w_cond (c : AOpd) (a b : ACode) (Q : Post) (e : Env) (h : AHeap) : wp P (.cond c a b) Q e h = cI P (opd e c) a b Q e h := rfl
theorem w_block (id : Nat) (b : ACode) (Q : Post) (e : Env) (h : AHeap) : wp P (.block id b) Q e h = wp P b (blkQ id Q) e h := rfl
theorem w_loop (b : ACode) (Q : Post) (e : Env) (h : AHeap) : wp P (.loop b) Q e h = loopI P b Q e h := rfl
theorem w_exit (id : Nat) (Q : Post) (e : Env) (h : AHeap) : wp P (.exit id) Q e h = Q (.exit id) e h := rfl
theorem w_ret (Q : Post) (e : Env) (h : AHeap) : wp P .ret Q e h = Q .ret e h := rfl

theorem q_seq (b : ACode) (Q : Post) (e : Env) (h : AHeap) : seqC P b Q .normal e h = wp P b Q e h := rfl
theorem q_seq_exit (b : ACode) (Q : Post) (i : Nat) (e : Env) (h : AHeap) : seqC P b Q (.exit i) e h = Q (.exit i) e h := rfl
theorem q_seq_ret (b : ACode) (Q : Post) (e : Env) (h : AHeap) : seqC P b Q .ret e h = Q .ret e h := rfl
theorem q_blk (i : Nat) (Q : Post) (e : Env) (h : AHeap) : blkQ i Q .normal e h = Q .normal e h := rfl
theorem q_blk_ret (i : Nat) (Q : Post) (e : Env) (h : AHeap) : blkQ i Q .ret e h = Q .ret e h := rfl
theorem q_blk_same (i : Nat) (Q : Post) (e : Env) (h : AHeap) : blkQ i Q (.exit i) e h = Q .normal e h := by simp [blkQ]
theorem q_blk_ne (i j : Nat) (n : Nat.beq j i = false) (Q : Post) (e : Env) (h : AHeap) : blkQ i Q (.exit j) e h = Q (.exit j) e h := by
  have : ¬ j = i := by intro e; subst e; simp at n
  simp [blkQ, this]
theorem q_loop (I : Nat → Env → AHeap → Prop) (k : Nat) (Q : Post) (e : Env) (h : AHeap) : loopQ I k Q .normal e h = ∃ k', k' < k ∧ I k' e h := rfl
theorem q_loop_exit (I : Nat → Env → AHeap → Prop) (k : Nat) (Q : Post) (i : Nat) (e : Env) (h : AHeap) : loopQ I k Q (.exit i) e h = Q (.exit i) e h := rfl
theorem q_loop_ret (I : Nat → Env → AHeap → Prop) (k : Nat) (Q : Post) (e : Env) (h : AHeap) : loopQ I k Q .ret e h = Q .ret e h := rfl
theorem q_ret (rs : List AResVar) (Q : AVal → AHeap → Prop) (e : Env) (h : AHeap) : retQ rs Q .ret e h = wpOp ((resOf ⟨e, h⟩ rs).map fun v => (v, h)) Q := rfl
theorem q_ret_normal (rs : List AResVar) (Q : AVal → AHeap → Prop) (e : Env) (h : AHeap) : retQ rs Q .normal e h = wpOp ((resOf ⟨e, h⟩ rs).map fun v => (v, h)) Q := rfl
theorem res_nil (e : Env) (h : AHeap) : ((resOf ⟨e, h⟩ []).map fun v => (v, h)) = some (.tup [], h) := rfl
theorem res_tmp (e : Env) (h : AHeap) (t : Nat) : ((resOf ⟨e, h⟩ [.tmp t]).map fun v => (v, h)) = some (e.val t, h) := rfl
theorem res_tmp2 (e : Env) (h : AHeap) (t u : Nat) : ((resOf ⟨e, h⟩ [.tmp t, .tmp u]).map fun v => (v, h)) = some (.tup [e.val t, e.val u], h) := rfl
theorem res_tmp3 (e : Env) (h : AHeap) (t u w : Nat) : ((resOf ⟨e, h⟩ [.tmp t, .tmp u, .tmp w]).map fun v => (v, h)) = some (.tup [e.val t, e.val u, e.val w], h) := rfl
def retO (o : Option (AVal × AHeap)) (h : AHeap) : Option (AVal × AHeap) := o.map fun p => (p.1, h)
theorem res_cell (e : Env) (h : AHeap) (t : Nat) (n : Option Nat) : ((resOf ⟨e, h⟩ [.cell t n]).map fun v => (v, h)) = retO (aop e h (.load n (.tmp t))) h := by
  simp only [resOf, resVals, resVal, retO]
  cases aop e h (.load n (.tmp t)) <;> rfl
theorem retO_some (v : AVal) (h' h : AHeap) : retO (some (v, h')) h = some (v, h) := rfl
theorem op_some (v : AVal) (h : AHeap) (k : AVal → AHeap → Prop) : wpOp (some (v, h)) k = k v h := rfl

theorem is_nil (Q : Env → AHeap → Prop) (e : Env) (h : AHeap) : wpIs P [] Q e h = Q e h := rfl
theorem is_op (d : Option Nat) (o : AOp) (is : List AInstr) (Q : Env → AHeap → Prop) (e : Env) (h : AHeap) :
    wpIs P (⟨d, .op o, none⟩ :: is) Q e h = opI P (aop e h o) d is Q e := rfl
theorem is_call (d : Option Nat) (f : AOpd) (args : List AOpd) (is : List AInstr) (Q : Env → AHeap → Prop) (e : Env) (h : AHeap) :
    wpIs P (⟨d, .call f args, none⟩ :: is) Q e h = fnI P (opd e f) (args.map (opd e)) h d is Q e := rfl
theorem is_guard (d : Option Nat) (i : AIOp) (t : Nat) (b : Bool) (is : List AInstr) (Q : Env → AHeap → Prop) (e : Env) (h : AHeap) :
    wpIs P (⟨d, i, some (t, b)⟩ :: is) Q e h = gI P (e.val t) b d i is Q e h := by
  simp only [wpIs, gI, wanted]
  cases e.val t <;> rfl
theorem opI_some (v : AVal) (h : AHeap) (d : Nat) (is : List AInstr) (Q : Env → AHeap → Prop) (e : Env) : opI P (some (v, h)) (some d) is Q e = wpIs P is Q (Tr.set e d v) h := rfl
theorem opI_drop (v : AVal) (h : AHeap) (is : List AInstr) (Q : Env → AHeap → Prop) (e : Env) : opI P (some (v, h)) none is Q e = wpIs P is Q e h := rfl
theorem fnI_fn (f : FuncId) (a b args : List AVal) (h : AHeap) (d : Option Nat) (is : List AInstr) (Q : Env → AHeap → Prop) (e : Env) : fnI P (.fn (.func f) a b) args h d is Q e = callI P f (a ++ args ++ b) h d is Q e := rfl
theorem gI_tt (d : Option Nat) (i : AIOp) (is : List AInstr) (Q : Env → AHeap → Prop) (e : Env) (h : AHeap) : gI P (.bool true) true d i is Q e h = wpIs P (⟨d, i, none⟩ :: is) Q e h := rfl
theorem gI_ff (d : Option Nat) (i : AIOp) (is : List AInstr) (Q : Env → AHeap → Prop) (e : Env) (h : AHeap) : gI P (.bool false) false d i is Q e h = wpIs P (⟨d, i, none⟩ :: is) Q e h := rfl
theorem gI_tf (d : Option Nat) (i : AIOp) (is : List AInstr) (Q : Env → AHeap → Prop) (e : Env) (h : AHeap) : gI P (.bool true) false d i is Q e h = wpIs P is Q (put e d (.tup [])) h := rfl
theorem gI_ft (d : Option Nat) (i : AIOp) (is : List AInstr) (Q : Env → AHeap → Prop) (e : Env) (h : AHeap) : gI P (.bool false) true d i is Q e h = wpIs P is Q (put e d (.tup [])) h := rfl
theorem gI_tup (l : List AVal) (b : Bool) (d : Option Nat) (i : AIOp) (is : List AInstr) (Q : Env → AHeap → Prop) (e : Env) (h : AHeap) : gI P (.tup l) b d i is Q e h = wpIs P is Q (put e d (.tup [])) h := rfl
theorem gI_bool {c b : Bool} {d : Option Nat} {i : AIOp} {is : List AInstr} {Q : Env → AHeap → Prop} {e : Env} {h : AHeap} (h1 : c = true → gI P (.bool true) b d i is Q e h) (h2 : c = false → gI P (.bool false) b d i is Q e h) : gI P (.bool c) b d i is Q e h := by
  cases c
  · exact h2 rfl
  · exact h1 rfl
theorem cI_true (a b : ACode) (Q : Post) (e : Env) (h : AHeap) : cI P (.bool true) a b Q e h = wp P a Q e h := rfl
theorem cI_false (a b : ACode) (Q : Post) (e : Env) (h : AHeap) : cI P (.bool false) a b Q e h = wp P b Q e h := rfl
theorem cI_bool {c : Bool} {a b : ACode} {Q : Post} {e : Env} {h : AHeap} (h1 : c = true → wp P a Q e h) (h2 : c = false → wp P b Q e h) : cI P (.bool c) a b Q e h := by
  cases c
  · exact h2 rfl
  · exact h1 rfl
theorem callI_of {f : FuncId} {args : List AVal} {h : AHeap} {d : Option Nat} {is : List AInstr} {Q : Env → AHeap → Prop} {e : Env} {R : AVal → AHeap → Prop} (c : CallP P f args h R) (k : ∀ v h', R v h' → wpIs P is Q (put e d v) h') : callI P f args h d is Q e := c.mono k
theorem opI_of {o : Option (AVal × AHeap)} {d : Option Nat} {is : List AInstr} {Q : Env → AHeap → Prop} {e : Env} (w : wpOp o fun v h' => wpIs P is Q (put e d v) h') : opI P o d is Q e := w
theorem loopI_of {b : ACode} {Q : Post} {e : Env} {h : AHeap} (I : Nat → Env → AHeap → Prop) (k : Nat) (h0 : I k e h) (hs : ∀ k e h, I k e h → wp P b (loopQ I k Q) e h) : loopI P b Q e h := wp_loop I k h0 hs

/-! Regions whose order is open. -/
def trI (P : AProg) (is : List DInstr) (acc : List TS) (all : List DInstr) (Q : Env → AHeap → Prop) (e : Env) (h : AHeap) : Prop :=
  wpTr P is (fun ts e' h' => readsOk (acc.reverse ++ ts) h' all (acc.reverse ++ ts) = true ∧ Q e' h') e h
def trOp (P : AProg) (o : Option (AVal × AHeap)) (d : Option Nat) (act : Bool) (is : List DInstr) (acc : List TS) (all : List DInstr) (Q : Env → AHeap → Prop) (e : Env) (h : AHeap) : Prop :=
  wpOp o fun v h' => trI P is (⟨e, h, true, v⟩ :: acc) all Q (put e d v) (if act then h' else h)
def trG (P : AProg) (v : AVal) (b : Bool) (d : Option Nat) (i : AIOp) (k : DK) (is : List DInstr) (acc : List TS) (all : List DInstr) (Q : Env → AHeap → Prop) (e : Env) (h : AHeap) : Prop :=
  wpG (match v with | .bool c => some (c == b) | .tup _ => some false | _ => none) (trI P (⟨⟨d, i, none⟩, k⟩ :: is) acc all Q e h) (trI P is (⟨e, h, false, .tup []⟩ :: acc) all Q (put e d (.tup [])) h)
def trFn (P : AProg) (f : AVal) (args : List AVal) (d : Option Nat) (is : List DInstr) (acc : List TS) (all : List DInstr) (Q : Env → AHeap → Prop) (e : Env) (h : AHeap) : Prop :=
  wpFn P f args h fun v h' => trI P is (⟨e, h, true, v⟩ :: acc) all Q (put e d v) h'
def trCall (P : AProg) (f : FuncId) (args : List AVal) (d : Option Nat) (is : List DInstr) (acc : List TS) (all : List DInstr) (Q : Env → AHeap → Prop) (e : Env) (h : AHeap) : Prop :=
  CallP P f args h fun v h' => trI P is (⟨e, h, true, v⟩ :: acc) all Q (put e d v) h'
theorem w_draw (is : List DInstr) (Q : Post) (e : Env) (h : AHeap) : wp P (.draw is) Q e h = trI P is [] is (Q .normal) e h := rfl
theorem tr_nil (acc : List TS) (all : List DInstr) (Q : Env → AHeap → Prop) (e : Env) (h : AHeap) : trI P [] acc all Q e h = (readsOk acc.reverse h all acc.reverse = true ∧ Q e h) := by simp only [trI, wpTr, List.append_nil]
theorem wpOp_cong {o : Option (AVal × AHeap)} {k k' : AVal → AHeap → Prop} (e : ∀ v h, k v h = k' v h) : wpOp o k = wpOp o k' := by
  have : k = k' := by funext v h; exact e v h
  rw [this]
theorem tr_pure (d : Option Nat) (o : AOp) (is : List DInstr) (acc : List TS) (all : List DInstr) (Q : Env → AHeap → Prop) (e : Env) (h : AHeap) :
    trI P (⟨⟨d, .op o, none⟩, .pure⟩ :: is) acc all Q e h = trOp P (aop e h o) d false is acc all Q e h := by
  simp only [trI, trOp, wpTr, wanted, wpG, List.reverse_cons, List.append_assoc, List.cons_append, List.nil_append]; rfl
theorem tr_read (d : Option Nat) (o : AOp) (qs : List Nat) (is : List DInstr) (acc : List TS) (all : List DInstr) (Q : Env → AHeap → Prop) (e : Env) (h : AHeap) :
    trI P (⟨⟨d, .op o, none⟩, .read qs⟩ :: is) acc all Q e h = trOp P (aop e h o) d false is acc all Q e h := by
  simp only [trI, trOp, wpTr, wanted, wpG, List.reverse_cons, List.append_assoc, List.cons_append, List.nil_append]; rfl
theorem tr_act (d : Option Nat) (o : AOp) (l : Bool) (is : List DInstr) (acc : List TS) (all : List DInstr) (Q : Env → AHeap → Prop) (e : Env) (h : AHeap) :
    trI P (⟨⟨d, .op o, none⟩, .act l⟩ :: is) acc all Q e h = trOp P (aop e h o) d true is acc all Q e h := by
  simp only [trI, trOp, wpTr, wanted, wpG, List.reverse_cons, List.append_assoc, List.cons_append, List.nil_append]; rfl
theorem tr_call (d : Option Nat) (f : AOpd) (args : List AOpd) (l : Bool) (is : List DInstr) (acc : List TS) (all : List DInstr) (Q : Env → AHeap → Prop) (e : Env) (h : AHeap) :
    trI P (⟨⟨d, .call f args, none⟩, .act l⟩ :: is) acc all Q e h = trFn P (opd e f) (args.map (opd e)) d is acc all Q e h := by
  simp only [trI, trFn, wpTr, wanted, wpG, List.reverse_cons, List.append_assoc, List.cons_append, List.nil_append]
theorem tr_guard (d : Option Nat) (i : AIOp) (k : DK) (t : Nat) (b : Bool) (is : List DInstr) (acc : List TS) (all : List DInstr) (Q : Env → AHeap → Prop) (e : Env) (h : AHeap) :
    trI P (⟨⟨d, i, some (t, b)⟩, k⟩ :: is) acc all Q e h = trG P (e.val t) b d i k is acc all Q e h := by
  simp only [trI, trG, wpTr, wanted, List.reverse_cons, List.append_assoc, List.cons_append, List.nil_append]
  cases e.val t <;> rfl
theorem trOp_some (v : AVal) (h' : AHeap) (d : Nat) (is : List DInstr) (acc : List TS) (all : List DInstr) (Q : Env → AHeap → Prop) (e : Env) (h : AHeap) : trOp P (some (v, h')) (some d) false is acc all Q e h = trI P is (⟨e, h, true, v⟩ :: acc) all Q (Tr.set e d v) h := rfl
theorem trOp_act (v : AVal) (h' : AHeap) (d : Nat) (is : List DInstr) (acc : List TS) (all : List DInstr) (Q : Env → AHeap → Prop) (e : Env) (h : AHeap) : trOp P (some (v, h')) (some d) true is acc all Q e h = trI P is (⟨e, h, true, v⟩ :: acc) all Q (Tr.set e d v) h' := rfl
theorem trOp_drop (v : AVal) (h' : AHeap) (is : List DInstr) (acc : List TS) (all : List DInstr) (Q : Env → AHeap → Prop) (e : Env) (h : AHeap) : trOp P (some (v, h')) none true is acc all Q e h = trI P is (⟨e, h, true, v⟩ :: acc) all Q e h' := rfl
theorem trFn_fn (f : FuncId) (a b args : List AVal) (d : Option Nat) (is : List DInstr) (acc : List TS) (all : List DInstr) (Q : Env → AHeap → Prop) (e : Env) (h : AHeap) : trFn P (.fn (.func f) a b) args d is acc all Q e h = trCall P f (a ++ args ++ b) d is acc all Q e h := rfl
theorem trG_tt (d : Option Nat) (i : AIOp) (k : DK) (is : List DInstr) (acc : List TS) (all : List DInstr) (Q : Env → AHeap → Prop) (e : Env) (h : AHeap) : trG P (.bool true) true d i k is acc all Q e h = trI P (⟨⟨d, i, none⟩, k⟩ :: is) acc all Q e h := rfl
theorem trG_ff (d : Option Nat) (i : AIOp) (k : DK) (is : List DInstr) (acc : List TS) (all : List DInstr) (Q : Env → AHeap → Prop) (e : Env) (h : AHeap) : trG P (.bool false) false d i k is acc all Q e h = trI P (⟨⟨d, i, none⟩, k⟩ :: is) acc all Q e h := rfl
theorem trG_tf (d : Option Nat) (i : AIOp) (k : DK) (is : List DInstr) (acc : List TS) (all : List DInstr) (Q : Env → AHeap → Prop) (e : Env) (h : AHeap) : trG P (.bool true) false d i k is acc all Q e h = trI P is (⟨e, h, false, .tup []⟩ :: acc) all Q (put e d (.tup [])) h := rfl
theorem trG_ft (d : Option Nat) (i : AIOp) (k : DK) (is : List DInstr) (acc : List TS) (all : List DInstr) (Q : Env → AHeap → Prop) (e : Env) (h : AHeap) : trG P (.bool false) true d i k is acc all Q e h = trI P is (⟨e, h, false, .tup []⟩ :: acc) all Q (put e d (.tup [])) h := rfl
theorem trG_tup (l : List AVal) (b : Bool) (d : Option Nat) (i : AIOp) (k : DK) (is : List DInstr) (acc : List TS) (all : List DInstr) (Q : Env → AHeap → Prop) (e : Env) (h : AHeap) : trG P (.tup l) b d i k is acc all Q e h = trI P is (⟨e, h, false, .tup []⟩ :: acc) all Q (put e d (.tup [])) h := rfl
theorem trG_bool {c b : Bool} {d : Option Nat} {i : AIOp} {k : DK} {is : List DInstr} {acc : List TS} {all : List DInstr} {Q : Env → AHeap → Prop} {e : Env} {h : AHeap} (h1 : c = true → trG P (.bool true) b d i k is acc all Q e h) (h2 : c = false → trG P (.bool false) b d i k is acc all Q e h) : trG P (.bool c) b d i k is acc all Q e h := by
  cases c
  · exact h2 rfl
  · exact h1 rfl
theorem trCall_of {f : FuncId} {args : List AVal} {h : AHeap} {d : Option Nat} {is : List DInstr} {acc : List TS} {all : List DInstr} {Q : Env → AHeap → Prop} {e : Env} {R : AVal → AHeap → Prop} (c : CallP P f args h R) (k : ∀ v h', R v h' → trI P is (⟨e, h, true, v⟩ :: acc) all Q (put e d v) h') : trCall P f args d is acc all Q e h := c.mono k
theorem trOp_of {o : Option (AVal × AHeap)} {d : Option Nat} {act : Bool} {is : List DInstr} {acc : List TS} {all : List DInstr} {Q : Env → AHeap → Prop} {e : Env} {h : AHeap} (w : wpOp o fun v h' => trI P is (⟨e, h, true, v⟩ :: acc) all Q (put e d v) (if act then h' else h)) : trOp P o d act is acc all Q e h := w

theorem beq_int (k : IntKind) (n : Int) : (AVal.int k n).beq (.int k n) = true := by simp [AVal.beq]
theorem beq_bool (b : Bool) : (AVal.bool b).beq (.bool b) = true := by simp [AVal.beq]
theorem beq_ptr (a b c : Nat) : (AVal.ptr a b c).beq (.ptr a b c) = true := by simp [AVal.beq]
theorem beq_sl (a b c d e : Nat) : (AVal.sl a b c d e).beq (.sl a b c d e) = true := by simp [AVal.beq]
theorem beq_nils : AVal.nils.beq .nils = true := rfl
theorem beq_nilp : AVal.nilp.beq .nilp = true := rfl
theorem beq_agg (l : List AVal) : (AVal.agg l).beq (.agg l) = AVal.beqs l l := by simp [AVal.beq]
theorem beqs_nil : AVal.beqs [] [] = true := rfl
theorem beqs_cons (a : AVal) (l : List AVal) : AVal.beqs (a :: l) (a :: l) = (a.beq a && AVal.beqs l l) := by simp [AVal.beqs]
theorem rd_nil (all : List TS) (h : AHeap) (ts : List TS) : readsOk all h [] ts = true := rfl
theorem rd_cons (all : List TS) (h : AHeap) (d : DInstr) (ds : List DInstr) (t : TS) (ts : List TS) : readsOk all h (d :: ds) (t :: ts) = (readOk all h d t && readsOk all h ds ts) := rfl
theorem rdk_pure (all : List TS) (h : AHeap) (i : AInstr) (t : TS) : readOk all h ⟨i, .pure⟩ t = true := rfl
theorem rdk_act (all : List TS) (h : AHeap) (i : AInstr) (l : Bool) (t : TS) : readOk all h ⟨i, .act l⟩ t = true := rfl
def sameO (o : Option (AVal × AHeap)) (v : AVal) : Bool := match o with
  | some (u, _) => u.beq v
  | none => false
def hAt (o : Option TS) (h : AHeap) : AHeap := match o with
  | some t => t.h
  | none => h
def rdAll (qs : List Nat) (n : Nat) (all : List TS) (e : Env) (o : AOp) (v : AVal) (h : AHeap) : Bool := qs.all fun q => decide (n < q) || same e o v (heapAt all h q)
theorem rdk_read (all : List TS) (h : AHeap) (d : Option Nat) (o : AOp) (g : Option (Nat × Bool)) (qs : List Nat) (t : TS) : readOk all h ⟨⟨d, .op o, g⟩, .read qs⟩ t = (!t.w || rdAll qs all.length all t.e o t.v h) := rfl
theorem rdAll_nil (n : Nat) (all : List TS) (e : Env) (o : AOp) (v : AVal) (h : AHeap) : rdAll [] n all e o v h = true := rfl
theorem rdAll_cons (q : Nat) (qs : List Nat) (n : Nat) (all : List TS) (e : Env) (o : AOp) (v : AVal) (h : AHeap) : rdAll (q :: qs) n all e o v h = ((decide (n < q) || sameO (aop e (hAt all[q]? h) o) v) && rdAll qs n all e o v h) := rfl
theorem sameO_some (u v : AVal) (h : AHeap) : sameO (some (u, h)) v = u.beq v := rfl
theorem hAt_some (t : TS) (h : AHeap) : hAt (some t) h = t.h := rfl
theorem hAt_none (h : AHeap) : hAt none h = h := rfl
theorem cells_int (k : IntKind) (n : Int) : (AVal.int k n).cells = [.int k n] := rfl
theorem cells_bool (b : Bool) : (AVal.bool b).cells = [.bool b] := rfl
theorem cells_agg (l : List AVal) : (AVal.agg l).cells = l := rfl
theorem cells_ptr (i g o : Nat) : (AVal.ptr i g o).cells = [.ptr i g o] := rfl
theorem cells_nilp : AVal.nilp.cells = [.nilp] := rfl
theorem cells_nils : AVal.nils.cells = [.nils] := rfl
theorem cells_sl (i g o l s : Nat) : (AVal.sl i g o l s).cells = [.sl i g o l s] := rfl
theorem cell_int (k : IntKind) (n : Int) : (AVal.int k n).cell = true := rfl
theorem cell_bool (b : Bool) : (AVal.bool b).cell = true := rfl
theorem cell_ptr (i g o : Nat) : (AVal.ptr i g o).cell = true := rfl
theorem cell_nilp : AVal.nilp.cell = true := rfl
theorem cell_nils : AVal.nils.cell = true := rfl
theorem cell_sl (i g o l s : Nat) : (AVal.sl i g o l s).cell = true := rfl

/-! The slots. -/
theorem put_some (e : Env) (d : Nat) (v : AVal) : put e (some d) v = Tr.set e d v := rfl
theorem put_none (e : Env) (v : AVal) : put e none v = e := rfl
theorem val_set (e : Env) (d t : Nat) (v : AVal) : Env.val (Tr.set e d v) t = bif Nat.beq t d then v else Env.val e t := by
  unfold Env.val
  rw [Tr.get_set]
  cases hb : Nat.beq t d with
  | true => rw [Nat.beq_eq] at hb; rw [if_pos hb]; rfl
  | false => rw [if_neg (by intro e; subst e; simp at hb)]; rfl
theorem val_same (e : Env) (d : Nat) (v : AVal) : Env.val (Tr.set e d v) d = v := by rw [val_set]; simp
theorem val_ne (e : Env) (d t : Nat) (v : AVal) (n : Nat.beq t d = false) : Env.val (Tr.set e d v) t = Env.val e t := by rw [val_set, n]; rfl
theorem opd_tmp (e : Env) (t : Nat) : opd e (.tmp t) = e.val t := rfl
theorem opd_val (e : Env) (v : AVal) : opd e (.val v) = v := rfl
theorem opd_fnv (e : Env) (f : FuncId) : opd e (.fnv f) = .fn (.func f) [] [] := rfl
theorem opd_glob (e : Env) (g : Nat) : opd e (.glob g) = .ptr g 0 0 := rfl
theorem envOf_nil (i : Nat) : envOf i [] = .nil := rfl
theorem envOf_cons (i : Nat) (v : AVal) (vs : List AVal) : envOf i (v :: vs) = Tr.set (envOf (i + 1) vs) i v := rfl

/-! The operations. -/
variable (e : Env) (h : AHeap)
theorem a_mov (x : AOpd) : aop e h (.mov x) = some (opd e x, h) := rfl
theorem a_alloc (z : List AVal) : aop e h (.alloc z) = some (.ptr h.n 0 0, h.push (.cells 0 false z)) := rfl
theorem a_mkIface (t : TypeId) (x : AOpd) : aop e h (.mkIface t x) = some (.iface t (opd e x), h) := rfl
def pickV (c x y : AVal) (h : AHeap) : Option (AVal × AHeap) := match c with
  | .bool t => some (if t then x else y, h)
  | _ => none
theorem a_pick (c a b : AOpd) : aop e h (.pick c a b) = pickV (opd e c) (opd e a) (opd e b) h := rfl
theorem pick_true (x y : AVal) : pickV (.bool true) x y h = some (x, h) := rfl
theorem pick_false (x y : AVal) : pickV (.bool false) x y h = some (y, h) := rfl
theorem a_build (z : List AVal) (ps : List (Nat × Nat × AOpd)) : aop e h (.build z ps) = (fillP z (ps.map fun (o, s, x) => (o, s, opd e x))).map fun cs => (.agg cs, h) := rfl
theorem a_buildSlice (esz n : Nat) (z : List AVal) (ps : List (Nat × AOpd)) : aop e h (.buildSlice esz n z ps) = (fillP ((List.range (n * esz)).map fun i => z.getD (i % esz) .undef) (ps.map fun (i, x) => (i * esz, esz, opd e x))).map fun cs => (.sl h.n 0 0 n esz, h.push (.cells 0 false cs)) := rfl

def bsV (h : AHeap) (esz : Nat) (cs : List AVal) : Option (AVal × AHeap) := if cs.length = esz ∧ cs.all (·.cell) = true then some (.sl h.n 0 0 1 esz, h.push (.cells 0 false cs)) else none
theorem a_bs1 (esz : Nat) (z : List AVal) (x : AOpd) : aop e h (.buildSlice esz 1 z [(0, x)]) = bsV h esz (opd e x).cells := by
  simp only [aop, opBuildSlice, bsV, List.map_cons, List.map_nil, fillP, Nat.one_mul, Nat.zero_mul, List.length_map, List.length_range, Nat.zero_add, Nat.le_refl, true_and, List.take_zero, List.nil_append]
  split
  · simp only [Option.map_some, List.drop_of_length_le (show ((List.range esz).map fun i => z.getD (i % esz) .undef).length ≤ esz by simp), List.append_nil]
  · rfl
theorem bsV_eq (esz : Nat) (cs : List AVal) : bsV h esz cs = if cs.length = esz ∧ cs.all (·.cell) = true then some (.sl h.n 0 0 1 esz, h.push (.cells 0 false cs)) else none := rfl
theorem fill_nil (cs : List AVal) : fillP cs [] = some cs := rfl
theorem fill_cons (cs : List AVal) (off size : Nat) (v : AVal) (r : List (Nat × Nat × AVal)) :
    fillP cs ((off, size, v) :: r) = if v.cells.length = size ∧ off + size ≤ cs.length ∧ v.cells.all (·.cell) = true then fillP (cs.take off ++ v.cells ++ cs.drop (off + size)) r else none := rfl

def ldV (h : AHeap) (n : Option Nat) : AVal → Option (AVal × AHeap)
  | .ptr id g off => if id < h.n then (match n with
      | none => (h.rd id g off 1).bind fun cs => match cs with | [v] => some (v, h) | _ => none
      | some n => (h.rd id g off n).map fun cs => (.agg cs, h)) else none
  | _ => none
def ld1 (o : Option AVal) (h : AHeap) : Option (AVal × AHeap) := o.map fun v => (v, h)
def ldO (h : AHeap) (o : AObj) (g off : Nat) : Option (AVal × AHeap) := match o with
  | .cells g' _ vs => if g' = g then ld1 vs[off]? h else none
  | _ => none
def ldN (h : AHeap) (o : AObj) (g off n : Nat) : Option (AVal × AHeap) := match o with
  | .cells g' _ vs => if g' = g ∧ off + n ≤ vs.length then some (.agg ((vs.drop off).take n), h) else none
  | _ => none
theorem a_load (n : Option Nat) (x : AOpd) : aop e h (.load n x) = ldV h n (opd e x) := rfl
theorem ldV_one {id g off : Nat} (hid : id < h.n) : ldV h none (.ptr id g off) = ldO h (h.get id) g off := by
  simp only [ldV, if_pos hid, AHeap.rd, ldO]
  cases h.get id with
  | cells g' ro vs =>
    simp only
    by_cases hg : g' = g
    · subst hg
      simp only [true_and, if_true]
      by_cases ho : off + 1 ≤ vs.length
      · rw [if_pos ho]
        have : (vs.drop off).take 1 = [vs[off]] := by
          have := List.drop_eq_getElem_cons (l := vs) (i := off) (by omega)
          rw [this]; rfl
        rw [this]
        simp [ld1, List.getElem?_eq_getElem (show off < vs.length by omega)]
      · rw [if_neg ho]
        simp [ld1, List.getElem?_eq_none (show vs.length ≤ off by omega)]
    · simp [hg]
  | hole => rfl
  | map es => rfl
theorem ldV_some {id g off n : Nat} (hid : id < h.n) : ldV h (some n) (.ptr id g off) = ldN h (h.get id) g off n := by
  simp only [ldV, if_pos hid, AHeap.rd, ldN]
  cases h.get id with
  | cells g' ro vs => simp only; split <;> rfl
  | hole => rfl
  | map es => rfl
theorem ldO_cells (g off : Nat) (ro : Bool) (vs : List AVal) : ldO h (.cells g ro vs) g off = ld1 vs[off]? h := by simp [ldO]
theorem ld1_some (v : AVal) : ld1 (some v) h = some (v, h) := rfl
theorem ldN_cells {g off n : Nat} {ro : Bool} {vs : List AVal} (hl : off + n ≤ vs.length) : ldN h (.cells g ro vs) g off n = some (.agg ((vs.drop off).take n), h) := by simp [ldN, hl]

def stV (h : AHeap) (n : Nat) (a : AVal) (cs : List AVal) : Option (AVal × AHeap) := match a with
  | .ptr id g off => if id < h.n ∧ cs.length = n then (h.wr id g off cs).map fun h' => (.undef, h') else none
  | _ => none
def stO (h : AHeap) (id : Nat) (o : AObj) (g off : Nat) (cs : List AVal) : Option (AVal × AHeap) := match o with
  | .cells g' false vs => if g' = g ∧ off + cs.length ≤ vs.length ∧ cs.all (·.cell) = true then some (.undef, h.set id (.cells g false (vs.take off ++ cs ++ vs.drop (off + cs.length)))) else none
  | _ => none
theorem a_store (n : Nat) (a x : AOpd) : aop e h (.store n a x) = stV h n (opd e a) (opd e x).cells := rfl
theorem stV_ptr {id g off n : Nat} {cs : List AVal} (hid : id < h.n) : stV h n (.ptr id g off) cs = if cs.length = n then stO h id (h.get id) g off cs else none := by
  by_cases hl : cs.length = n
  · simp only [stV, hid, hl, and_self, if_true, AHeap.wr, stO]
    cases h.get id with
    | cells g' ro vs =>
      cases ro
      · simp only; split <;> rfl
      · rfl
    | hole => rfl
    | map es => rfl
  · simp only [stV, hl, and_false, if_false]
theorem stO_cells (id g off : Nat) (vs cs : List AVal) :
    stO h id (.cells g false vs) g off cs = if off + cs.length ≤ vs.length ∧ cs.all (·.cell) = true then some (.undef, h.set id (.cells g false (vs.take off ++ cs ++ vs.drop (off + cs.length)))) else none := by simp only [stO, true_and]

def nilV (h : AHeap) : AVal → Option (AVal × AHeap)
  | .ptr id g off => some (.ptr id g off, h)
  | .fn (.func f) a b => some (.fn (.func f) a b, h)
  | .fn (.yield f) a b => some (.fn (.yield f) a b, h)
  | .map id => some (.map id, h)
  | _ => none
theorem a_nilCheck (x : AOpd) : aop e h (.nilCheck x) = nilV h (opd e x) := rfl
theorem nilV_ptr (id g off : Nat) : nilV h (.ptr id g off) = some (.ptr id g off, h) := rfl

def binV (h : AHeap) (op : BinOp) (x y : AVal) : Option (AVal × AHeap) := match x, y with
    | .int k a, .int l b => (ibin op k a l b).map fun v => (v, h)
    | .str a, .str b => match op with
      | .eql => some (.bool (a.data.toList == b.data.toList), h)
      | .neq => some (.bool (!(a.data.toList == b.data.toList)), h)
      | .add => if a.size + b.size ≤ 1099511627776 then some (.str ⟨(a.data.toList ++ b.data.toList).toArray⟩, h) else none
      | .lss => some (.bool (Op.bytesLess a.data.toList b.data.toList), h)
      | _ => none
    | .flt k a, .flt l b => (ofSem (binOp op 0 (.float k a) (.float l b))).map fun v => (v, h)
    | _, _ => none
theorem a_bin (op : BinOp) (x y : AOpd) : aop e h (.bin op x y) = binV h op (opd e x) (opd e y) := by
  simp only [aop, opBin, binV]
  cases opd e x <;> cases opd e y <;> rfl
theorem kEq_self (k : IntKind) : kEq k k = true := kEq_eq.2 rfl
theorem bin_add (k : IntKind) (a b : Int) : binV h .add (.int k a) (.int k b) = some (.int k (k.wrap (a + b)), h) := by simp [binV, ibin, kEq_self, ibin1, wrapF_eq, addF_eq]
theorem bin_sub (k : IntKind) (a b : Int) : binV h .sub (.int k a) (.int k b) = some (.int k (k.wrap (a - b)), h) := by simp [binV, ibin, kEq_self, ibin1, wrapF_eq, addF_eq, negF_eq, Int.sub_eq_add_neg]
theorem bin_mul (k : IntKind) (a b : Int) : binV h .mul (.int k a) (.int k b) = some (.int k (k.wrap (a * b)), h) := by simp [binV, ibin, kEq_self, ibin1, wrapF_eq]
theorem bin_eql (k : IntKind) (a b : Int) : binV h .eql (.int k a) (.int k b) = some (.bool (decide (a = b)), h) := by simp [binV, ibin, kEq_self, ibin1, ieqF_eq]; rfl
theorem bin_neq (k : IntKind) (a b : Int) : binV h .neq (.int k a) (.int k b) = some (.bool (!decide (a = b)), h) := by simp [binV, ibin, kEq_self, ibin1, ieqF_eq]; rfl
theorem bin_lss (k : IntKind) (a b : Int) : binV h .lss (.int k a) (.int k b) = some (.bool (decide (a < b)), h) := by simp [binV, ibin, kEq_self, ibin1, iltF_eq]
theorem bin_gtr (k : IntKind) (a b : Int) : binV h .gtr (.int k a) (.int k b) = some (.bool (decide (b < a)), h) := by simp [binV, ibin, kEq_self, ibin1, iltF_eq]
theorem bin_leq (k : IntKind) (a b : Int) : binV h .leq (.int k a) (.int k b) = some (.bool (decide (a ≤ b)), h) := by
  have : (!decide (b < a)) = decide (a ≤ b) := by rw [Bool.eq_iff_iff]; simp
  simp [binV, ibin, kEq_self, ibin1, iltF_eq, this]
theorem bin_geq (k : IntKind) (a b : Int) : binV h .geq (.int k a) (.int k b) = some (.bool (decide (b ≤ a)), h) := by
  have : (!decide (a < b)) = decide (b ≤ a) := by rw [Bool.eq_iff_iff]; simp
  simp [binV, ibin, kEq_self, ibin1, iltF_eq, this]
theorem bin_rem (k : IntKind) (a b : Int) (hb : b ≠ 0) : binV h .rem (.int k a) (.int k b) = some (.int k (a.tmod b), h) := by
  have : (b == 0) = false := by simpa using hb
  simp [binV, ibin, kEq_self, ibin1, ieqF_eq, this]
theorem bin_quo (k : IntKind) (a b : Int) (hb : b ≠ 0) : binV h .quo (.int k a) (.int k b) = some (.int k (k.wrap (a.tdiv b)), h) := by
  have : (b == 0) = false := by simpa using hb
  simp [binV, ibin, kEq_self, ibin1, ieqF_eq, wrapF_eq, this]

def eqlV (h : AHeap) (neg : Bool) (k : EqK) (x y : AVal) : Option (AVal × AHeap) := (aeq k x y).map fun b => (.bool (if neg then !b else b), h)
theorem a_eql (neg : Bool) (k : EqK) (x y : AOpd) : aop e h (.eql neg k x y) = eqlV h neg k (opd e x) (opd e y) := rfl
theorem eql_ptr_nil (id g off : Nat) (neg : Bool) : eqlV h neg .ptr (.ptr id g off) .nilp = some (.bool neg, h) := by cases neg <;> rfl
theorem eql_nil_nil (neg : Bool) : eqlV h neg .ptr .nilp .nilp = some (.bool (!neg), h) := by cases neg <;> rfl
theorem eql_bool (a b neg : Bool) : eqlV h neg .bool (.bool a) (.bool b) = some (.bool (if neg then !(a == b) else (a == b)), h) := by cases neg <;> rfl
theorem eql_flat (neg : Bool) (ks : List LK) (xs ys : List AVal) : eqlV h neg (.flat ks) (.agg xs) (.agg ys) = (litEqs ks xs ys).map fun b => (.bool (if neg then !b else b), h) := rfl
theorem lits_nil : litEqs [] [] [] = some true := rfl
theorem lits_cons (k : LK) (ks : List LK) (x y : AVal) (xs ys : List AVal) : litEqs (k :: ks) (x :: xs) (y :: ys) = (litEq k x y).bind fun b => (litEqs ks xs ys).map (b && ·) := rfl
theorem lit_int (k : IntKind) (a b : Int) : litEq .int (.int k a) (.int k b) = some (decide (a = b)) := by simp [litEq]; rfl
theorem lit_bool (a b : Bool) : litEq .bool (.bool a) (.bool b) = some (a == b) := rfl
theorem boxV_eq (x : AOpd) : aop e h (.box x) = if (opd e x).cells.all (·.cell) = true then some (.ptr h.n 0 0, h.push (.cells 0 false (opd e x).cells)) else none := rfl
theorem a_not (x : AOpd) : aop e h (.un .not x) = (opd e x).lit.bind fun a => (ofSem (Op.unary .not a)).map fun v => (v, h) := rfl
theorem not_bool (b : Bool) : ((AVal.bool b).lit.bind fun a => (ofSem (Op.unary .not a)).map fun v => (v, h)) = some (.bool (!b), h) := rfl
def convV (h : AHeap) (k : IntKind) : AVal → Option (AVal × AHeap)
  | .int _ n => some (.int k (wrapF k n), h)
  | _ => none
theorem a_conv (k : IntKind) (x : AOpd) : aop e h (.conv k x) = convV h k (opd e x) := rfl
theorem conv_int (k l : IntKind) (n : Int) : convV h k (.int l n) = some (.int k (k.wrap n), h) := by simp [convV, wrapF_eq]
def faV (h : AHeap) (off : Nat) : AVal → Option (AVal × AHeap)
  | .ptr id g o => some (.ptr id g (o + off), h)
  | _ => none
theorem a_fieldAddr (off : Nat) (x : AOpd) : aop e h (.fieldAddr off x) = faV h off (opd e x) := rfl
theorem fa_ptr (off id g o : Nat) : faV h off (.ptr id g o) = some (.ptr id g (o + off), h) := rfl
def fV (h : AHeap) (off : Nat) (n : Option Nat) : AVal → Option (AVal × AHeap)
  | .agg cs => (partA n cs off).map fun v => (v, h)
  | _ => none
theorem a_field (off : Nat) (n : Option Nat) (x : AOpd) : aop e h (.field off n x) = fV h off n (opd e x) := rfl
theorem f_agg (off : Nat) (cs : List AVal) : fV h off none (.agg cs) = ld1 cs[off]? h := rfl
def exV (h : AHeap) (i : Nat) : AVal → Option (AVal × AHeap)
  | .tup vs => ld1 vs[i]? h
  | _ => none
theorem a_extract (x : AOpd) (i : Nat) : aop e h (.extract x i) = exV h i (opd e x) := rfl
theorem ex_tup (i : Nat) (vs : List AVal) : exV h i (.tup vs) = ld1 vs[i]? h := rfl
def lenV (h : AHeap) : AVal → Option (AVal × AHeap)
  | .nils => some (.int .i64 0, h)
  | .sl _ _ _ len _ => some (.int .i64 len, h)
  | _ => none
theorem a_lenS (x : AOpd) : aop e h (.lenS x) = lenV h (opd e x) := rfl
theorem len_nil : lenV h .nils = some (.int .i64 0, h) := rfl
theorem len_sl (i g o l s : Nat) : lenV h (.sl i g o l s) = some (.int .i64 l, h) := rfl
def mmV (h : AHeap) (mx : Bool) (x y : AVal) : Option (AVal × AHeap) := match x, y with
    | .int k a, .int k' b => if k = k' then some (.int k (if mx then (if a < b then b else a) else (if b < a then b else a)), h) else none
    | _, _ => none
theorem a_min (x y : AOpd) : aop e h (.min x y) = mmV h false (opd e x) (opd e y) := rfl
theorem a_max (x y : AOpd) : aop e h (.max x y) = mmV h true (opd e x) (opd e y) := rfl
theorem min_int (k : IntKind) (a b : Int) : mmV h false (.int k a) (.int k b) = some (.int k (min a b), h) := by
  have : (if b < a then b else a) = min a b := by split <;> omega
  simp only [mmV, if_true, Bool.false_eq_true, if_false, this]
theorem max_int (k : IntKind) (a b : Int) : mmV h true (.int k a) (.int k b) = some (.int k (max a b), h) := by
  have : (if a < b then b else a) = max a b := by split <;> omega
  simp only [mmV, if_true, this]
def ixV (h : AHeap) (esz : Nat) (x i : AVal) : Option (AVal × AHeap) := match x, i with
    | .sl id g off len es, .int _ n => if 0 ≤ n ∧ n < len ∧ es = esz ∧ g = h.gen id then some (.ptr id g (off + n.toNat * esz), h) else none
    | _, _ => none
theorem a_idxS (esz : Nat) (x i : AOpd) : aop e h (.idxS esz x i) = ixV h esz (opd e x) (opd e i) := rfl
theorem ix_sl {id g off len esz : Nat} {k : IntKind} {n : Int} {ro : Bool} {vs : List AVal} (ho : h.get id = .cells g ro vs) (h1 : 0 ≤ n) (h2 : n < len) :
    ixV h esz (.sl id g off len esz) (.int k n) = some (.ptr id g (off + n.toNat * esz), h) := by
  have : g = h.gen id := by simp [AHeap.gen, ho]
  simp only [ixV, h1, h2, this, and_self, if_true]
def ixO (h : AHeap) (o : AObj) (id g off : Nat) : Option (AVal × AHeap) := match o with
  | .cells g' _ _ => if g' = g then some (.ptr id g off, h) else none
  | _ => if g = 0 then some (.ptr id g off, h) else none
theorem ix_st {id g off len esz : Nat} {k : IntKind} {n : Int} (h1 : 0 ≤ n) (h2 : n < len) : ixV h esz (.sl id g off len esz) (.int k n) = ixO h (h.get id) id g (off + n.toNat * esz) := by
  simp only [ixV, h1, h2, true_and, ixO, AHeap.gen]
  cases h.get id with
  | cells g' ro vs => simp only; by_cases e : g' = g <;> first | (subst e; simp) | (simp [e, Ne.symm e])
  | hole => rfl
  | map es => rfl
theorem ixO_cells (id g off : Nat) (ro : Bool) (vs : List AVal) : ixO h (.cells g ro vs) id g off = some (.ptr id g off, h) := by simp [ixO]
def slV (h : AHeap) (esz : Nat) (x : AVal) (lo hi : Option AVal) : Option (AVal × AHeap) :=
    let l : Option Nat := match lo with | none => some 0 | some (.int _ n) => if 0 ≤ n then some n.toNat else none | _ => none
    let r : Nat → Option Nat := fun len => match hi with | none => some len | some (.int _ n) => if 0 ≤ n then some n.toNat else none | _ => none
    match x with
    | .nils => l.bind fun l => (r 0).bind fun r => if l = 0 ∧ r = 0 then some (.nils, h) else none
    | .sl id g off len es => l.bind fun l => (r len).bind fun r => if l ≤ r ∧ r ≤ len ∧ es = esz ∧ g = h.gen id then some (.sl id g (off + l * esz) (r - l) esz, h) else none
    | _ => none
theorem a_slice (esz : Nat) (x : AOpd) (lo hi : Option AOpd) : aop e h (.slice esz x lo hi) = slV h esz (opd e x) (optOpd e lo) (optOpd e hi) := rfl
theorem optOpd_none : optOpd e none = none := rfl
theorem optOpd_some (x : AOpd) : optOpd e (some x) = some (opd e x) := rfl
theorem sl_from {id g off len esz : Nat} {k : IntKind} {n : Int} {ro : Bool} {vs : List AVal} (ho : h.get id = .cells g ro vs) (h1 : 0 ≤ n) (h2 : n ≤ len) :
    slV h esz (.sl id g off len esz) (some (.int k n)) none = some (.sl id g (off + n.toNat * esz) (len - n.toNat) esz, h) := by
  have : g = h.gen id := by simp [AHeap.gen, ho]
  simp only [slV, h1, this, if_true, Option.bind_some]
  rw [if_pos ⟨by omega, Nat.le_refl _, trivial, trivial⟩]
theorem sl_upto {id g off len esz : Nat} {k : IntKind} {n : Int} {ro : Bool} {vs : List AVal} (ho : h.get id = .cells g ro vs) (h1 : 0 ≤ n) (h2 : n ≤ len) :
    slV h esz (.sl id g off len esz) none (some (.int k n)) = some (.sl id g off n.toNat esz, h) := by
  have : g = h.gen id := by simp [AHeap.gen, ho]
  simp only [slV, h1, this, if_true, Option.bind_some]
  rw [if_pos ⟨by omega, by omega, trivial, trivial⟩]
  simp
def slO (h : AHeap) (o : AObj) (id g off len esz : Nat) : Option (AVal × AHeap) := match o with
  | .cells g' _ _ => if g' = g then some (.sl id g off len esz, h) else none
  | _ => if g = 0 then some (.sl id g off len esz, h) else none
theorem sl_st {id g off len esz : Nat} {k : IntKind} {n : Int} (h1 : 0 ≤ n) (h2 : n ≤ len) : slV h esz (.sl id g off len esz) (some (.int k n)) none = slO h (h.get id) id g (off + n.toNat * esz) (len - n.toNat) esz := by
  have h3 : n.toNat ≤ len := by omega
  simp only [slV, h1, h3, if_true, Option.bind_some, true_and, slO, AHeap.gen, Nat.le_refl]
  cases h.get id with
  | cells g' ro vs => simp only; by_cases e : g' = g <;> first | (subst e; simp) | (simp [e, Ne.symm e])
  | hole => rfl
  | map es => rfl
theorem sl_st2 {id g off len esz : Nat} {k : IntKind} {n : Int} (h1 : 0 ≤ n) (h2 : n ≤ len) : slV h esz (.sl id g off len esz) none (some (.int k n)) = slO h (h.get id) id g off n.toNat esz := by
  have h3 : n.toNat ≤ len := by omega
  simp only [slV, h1, h3, if_true, Option.bind_some, true_and, slO, AHeap.gen, Nat.zero_le, Nat.zero_mul, Nat.add_zero, Nat.sub_zero]
  cases h.get id with
  | cells g' ro vs => simp only; by_cases e : g' = g <;> first | (subst e; simp) | (simp [e, Ne.symm e])
  | hole => rfl
  | map es => rfl
theorem slO_cells (id g off len esz : Nat) (ro : Bool) (vs : List AVal) : slO h (.cells g ro vs) id g off len esz = some (.sl id g off len esz, h) := by simp [slO]
theorem sl_nil_upto (esz : Nat) (k : IntKind) : slV h esz .nils none (some (.int k 0)) = some (.nils, h) := rfl
theorem get_push_at (o : AObj) {j : Nat} (e : j = h.n) : (h.push o).get j = o := by subst e; exact AHeap.get_push_same _ _
theorem get_set_at (o : AObj) {i j : Nat} (e : j = i) : (h.set i o).get j = o := by subst e; exact AHeap.get_set_same _ _ _
theorem a_append (esz bytes : Nat) (x y : AOpd) : aop e h (.append esz bytes x y) = h.app esz bytes (opd e x) (opd e y) := rfl

end Go.AM
