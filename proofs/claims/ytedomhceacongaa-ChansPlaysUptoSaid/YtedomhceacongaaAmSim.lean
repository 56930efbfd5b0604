/-
  AM, part 8: each operation of the machine's stands for the model's.
-/
import Derived.Test.YtedomhceacongaaAmComp
import Derived.Laws.StructEq
namespace Go.AM
set_option linter.unusedVariables false
set_option linter.unusedSimpArgs false

structure Good (P : Program) (h : AHeap) (β : Pl) (w : World) (e : Env) (tmps : Array Value) : Prop where
  rel : Rel h β w
  env : ∀ t, vrel h β (e.val t) (tmps.getD t undef)
  g : h.g = P.globals.size

theorem ofVal_vrel {v : Value} {a : AVal} (e : ofVal v = some a) (h : AHeap) (β : Pl) : vrel h β a v := by
  unfold ofVal at e
  split at e <;> simp at e <;> subst e <;> simp [vrel]

theorem ofVals_vrels {h : AHeap} {β : Pl} : ∀ {vs : List Value} {as : List AVal}, ofVals vs = some as → vrels h β as vs
  | [], as, e => by simp [ofVals] at e; subst e; simp [vrels]
  | v :: vs, as, e => by
    simp only [ofVals, Option.bind_eq_some_iff, Option.map_eq_some_iff] at e
    obtain ⟨a, h1, as', h2, rfl⟩ := e
    exact vrels_cons_cons.2 ⟨ofVal_vrel h1 _ _, ofVals_vrels h2⟩

theorem ofVal_cell {v : Value} {a : AVal} (e : ofVal v = some a) : a.cell = true := by
  unfold ofVal at e
  split at e <;> simp at e <;> subst e <;> rfl
theorem ofVals_cells : ∀ {vs : List Value} {as : List AVal}, ofVals vs = some as → as.all (·.cell) = true
  | [], as, e => by simp [ofVals] at e; subst e; rfl
  | v :: vs, as, e => by
    simp only [ofVals, Option.bind_eq_some_iff, Option.map_eq_some_iff] at e
    obtain ⟨a, h1, as', h2, rfl⟩ := e
    simp [ofVal_cell h1, ofVals_cells h2]

theorem ofVal_cells {v : Value} {a : AVal} (e : ofVal v = some a) : a.cells = [a] ∧ v.cells = #[v] := by
  unfold ofVal at e
  split at e <;> simp at e <;> subst e <;> exact ⟨rfl, rfl⟩

/-- A zero, or another constant that may be a struct. -/
theorem ofZero_vrel {v : Value} {a : AVal} (e : ofZero v = some a) (h : AHeap) (β : Pl) : vrel h β a v ∧ vrels h β a.cells v.cells.toList ∧ a.cells.all (·.cell) = true := by
  unfold ofZero at e
  split at e
  · simp only [Option.map_eq_some_iff] at e
    obtain ⟨as, h1, rfl⟩ := e
    have := ofVals_vrels (h := h) (β := β) h1
    exact ⟨by simp only [vrel]; exact ⟨_, rfl, this⟩, this, ofVals_cells h1⟩
  · obtain ⟨e1, e2⟩ := ofVal_cells e
    have := ofVal_vrel e h β
    rw [e1, e2]
    exact ⟨this, vrels_cons_cons.2 ⟨this, by simp [vrels]⟩, by simp [ofVal_cell e]⟩

theorem opd_vrel {P : Program} {h : AHeap} {β : Pl} {w : World} {e : Env} {a : Act} (G : Good P h β w e a.tmps) {x : Operand} {ax : AOpd} (hx : cOpd P x = some ax) :
    vrel h β (opd e ax) (a.eval x) := by
  cases x with
  | tmp t => simp [cOpd] at hx; subst hx; exact G.env t
  | const v => simp only [cOpd, Option.map_eq_some_iff] at hx; obtain ⟨b, h1, rfl⟩ := hx; exact ofVal_vrel h1 _ _
  | global g =>
    simp only [cOpd] at hx
    split at hx
    · rename_i hg
      simp at hx; subst hx
      obtain ⟨g1, g2, g3, g4, g5⟩ := G.rel.glob g (by rw [G.g]; exact hg)
      simp only [opd, vrel, Act.eval]
      exact ⟨_, rfl, g1, Nat.zero_le _, fun _ => by rw [g4, g5]⟩
    · simp at hx
  | func f => simp [cOpd] at hx; subst hx; simp [opd, vrel, Act.eval, vrels]

theorem opds_vrels {P : Program} {h : AHeap} {β : Pl} {w : World} {e : Env} {a : Act} (G : Good P h β w e a.tmps) : ∀ {xs : List Operand} {as : List AOpd}, cOpds P xs = some as →
    vrels h β (as.map (opd e)) (xs.map a.eval)
  | [], as, hx => by simp [cOpds] at hx; subst hx; simp [vrels]
  | x :: xs, as, hx => by
    simp only [cOpds, Option.bind_eq_some_iff, Option.map_eq_some_iff] at hx
    obtain ⟨b, h1, bs, h2, rfl⟩ := hx
    exact vrels_cons_cons.2 ⟨opd_vrel G h1, opds_vrels G h2⟩

theorem lit_vrel {h : AHeap} {β : Pl} {a : AVal} {x v : Value} (hl : a.lit = some x) (r : vrel h β a v) : v = x := by
  cases a <;> simp [AVal.lit] at hl <;> subst hl <;> simpa [vrel] using r
theorem unlit_vrel {h : AHeap} {β : Pl} {a : AVal} {x : Value} (hl : unlit x = some a) : vrel h β a x := by
  cases x <;> simp [unlit] at hl <;> subst hl <;> simp [vrel]
theorem ofSem_run {h : AHeap} {β : Pl} {P : Program} {w : World} {s : Sem Value} {a : AVal} (e : ofSem s = some a) : ∃ v, s.run P w = .ok v w ∧ vrel h β a v := by
  cases s <;> simp [ofSem] at e
  exact ⟨_, rfl, unlit_vrel e⟩

/-- What an operation has come to. -/
def Did (P : Program) (o : Oper) (ρ : Operand → Value) (h : AHeap) (β : Pl) (w : World) (av : AVal) (h' : AHeap) : Prop :=
  ∃ w' β', ((∃ v, (execOp ρ o).run P w = .ok (.value v) w' ∧ vrel h' β' av v) ∨ ((execOp ρ o).run P w = .ok .skip w' ∧ av = .undef)) ∧ Rel h' β' w' ∧ Ext h β w h' β' w'

theorem Did.pure {P : Program} {o : Oper} {ρ : Operand → Value} {h : AHeap} {β : Pl} {w : World} {av : AVal} {v : Value} (R : Rel h β w)
    (hr : (execOp ρ o).run P w = .ok (.value v) w) (hv : vrel h β av v) : Did P o ρ h β w av h := ⟨w, β, .inl ⟨v, hr, hv⟩, R, Ext.refl _ _ _⟩
theorem Did.val {P : Program} {o : Oper} {ρ : Operand → Value} {h : AHeap} {β : Pl} {w : World} {av : AVal} {h' : AHeap} {v : Value} {w' : World} {β' : Pl}
    (hr : (execOp ρ o).run P w = .ok (.value v) w') (hv : vrel h' β' av v) (R : Rel h' β' w') (X : Ext h β w h' β' w') : Did P o ρ h β w av h' := ⟨w', β', .inl ⟨v, hr, hv⟩, R, X⟩

section
variable {P : Program} {h h' : AHeap} {β : Pl} {w : World} {e : Env} {a : Act} {o : Oper} {av : AVal} (G : Good P h β w e a.tmps)
 include G

theorem sim_mov {x : Operand} {ax : AOpd} (ho : o.op = .move x ∨ o.op = .assign x) (hx : cOpd P x = some ax) (he : aop e h (.mov ax) = some (av, h')) : Did P o a.eval h β w av h' := by
  simp only [aop, opMov, opPick, opAlloc, opBox, opBuild, opBuildSlice, opLoad, opStore, opNilCheck, opBin, opEql, opUn, opConv, opB2s, opMkIface, opMkFn, opMkMap, opMkSlice, opSlice, opFieldAddr, opField, opIdxS, opIdxA, opIndex, opIndexStr, opLookup, opMapUpd, opAssertT, opExtract, opLenS, opLenT, opLenM, opMin, opMax, opAppend, opCopy, opDelete, Option.some.injEq, Prod.mk.injEq] at he
  obtain ⟨rfl, rfl⟩ := he
  exact .pure G.rel (v := a.eval x) (by unfold execOp; rcases ho with ho | ho <;> rw [ho] <;> rfl) (opd_vrel G hx)

theorem sim_pick {c x y : Operand} {ac ax ay : AOpd} (ho : o.op = .pick c x y) (hc : cOpd P c = some ac) (hx : cOpd P x = some ax) (hy : cOpd P y = some ay)
    (he : aop e h (.pick ac ax ay) = some (av, h')) : Did P o a.eval h β w av h' := by
  simp only [aop, opMov, opPick, opAlloc, opBox, opBuild, opBuildSlice, opLoad, opStore, opNilCheck, opBin, opEql, opUn, opConv, opB2s, opMkIface, opMkFn, opMkMap, opMkSlice, opSlice, opFieldAddr, opField, opIdxS, opIdxA, opIndex, opIndexStr, opLookup, opMapUpd, opAssertT, opExtract, opLenS, opLenT, opLenM, opMin, opMax, opAppend, opCopy, opDelete] at he
  have rc := opd_vrel G hc
  split at he
  · rename_i t ht
    simp only [Option.some.injEq, Prod.mk.injEq] at he
    obtain ⟨rfl, rfl⟩ := he
    rw [ht] at rc
    simp only [vrel] at rc
    refine .pure G.rel (v := if t then a.eval x else a.eval y) (by unfold execOp; rw [ho]; simp [rc, asBool]) ?_
    cases t
    · exact opd_vrel G hy
    · exact opd_vrel G hx
  · simp at he

theorem sim_alloc {t : TypeId} {z : AVal} (ho : o.op = .alloc t) (hz : zeroT P t = some z) (he : aop e h (.alloc z.cells) = some (av, h')) : Did P o a.eval h β w av h' := by
  simp only [aop, opMov, opPick, opAlloc, opBox, opBuild, opBuildSlice, opLoad, opStore, opNilCheck, opBin, opEql, opUn, opConv, opB2s, opMkIface, opMkFn, opMkMap, opMkSlice, opSlice, opFieldAddr, opField, opIdxS, opIdxA, opIndex, opIndexStr, opLookup, opMapUpd, opAssertT, opExtract, opLenS, opLenT, opLenM, opMin, opMax, opAppend, opCopy, opDelete, Option.some.injEq, Prod.mk.injEq] at he
  obtain ⟨rfl, rfl⟩ := he
  simp only [zeroT, Option.bind_eq_some_iff] at hz
  obtain ⟨i, hi, zv, hzv, hz⟩ := hz
  have hcells := (ofZero_vrel hz h β).2.1
  have hl := vrels_length hcells
  simp at hl
  obtain ⟨R', X⟩ := new_row G.rel t (vs := z.cells) (c := zv.cells) z.cells.length (Nat.le_refl _) (by omega) (by rw [List.take_of_length_le (by simp; omega)]; exact hcells)
  refine .val (v := .pointer (some ⟨w.heap.size, 0, none⟩)) ?_ ?_ R' X
  · unfold execOp; rw [ho]; simp only [Instr.alloc, Sem.run_bind, run_zeroValue_of hi hzv, newVar, newRow, run_newObj, Result.andThen_ok, Sem.run_pure]; rfl
  · simp only [vrel]
    exact ⟨_, rfl, by simp, Nat.zero_le _, fun _ => by simp⟩

theorem cells_vrels {x : Operand} {ax : AOpd} (hx : cOpd P x = some ax) (hc : (opd e ax).cells.all (·.cell) = true) : vrels h β (opd e ax).cells (a.eval x).cells.toList := by
  have rx := opd_vrel G hx
  generalize opd e ax = ao at *
  generalize a.eval x = v at *
  cases ao with
  | agg cs => simp only [vrel] at rx; obtain ⟨x', rfl, r⟩ := rx; exact r
  | tup cs => simp [AVal.cells, AVal.cell] at hc
  | undef => simp [AVal.cells, AVal.cell] at hc
  | _ =>
    have h1 := oneCell_of (a := _) (by simpa [AVal.cells] using hc) rx
    have h2 : v.cells = #[v] := by cases v <;> first | rfl | simp [Value.oneCell'] at h1
    rw [h2]
    exact vrels_cons_cons.2 ⟨rx, by simp [vrels]⟩

theorem sim_box {t : TypeId} {x : Operand} {ax : AOpd} (ho : o.op = .box t x) (hx : cOpd P x = some ax) (he : aop e h (.box ax) = some (av, h')) : Did P o a.eval h β w av h' := by
  simp only [aop, opMov, opPick, opAlloc, opBox, opBuild, opBuildSlice, opLoad, opStore, opNilCheck, opBin, opEql, opUn, opConv, opB2s, opMkIface, opMkFn, opMkMap, opMkSlice, opSlice, opFieldAddr, opField, opIdxS, opIdxA, opIndex, opIndexStr, opLookup, opMapUpd, opAssertT, opExtract, opLenS, opLenT, opLenM, opMin, opMax, opAppend, opCopy, opDelete] at he
  split at he
  · rename_i hc
    simp only [Option.some.injEq, Prod.mk.injEq] at he
    obtain ⟨rfl, rfl⟩ := he
    have hcells := cells_vrels G hx hc
    have hl := vrels_length hcells
    simp at hl
    obtain ⟨R', X⟩ := new_row G.rel t (vs := (opd e ax).cells) (c := (a.eval x).cells) (opd e ax).cells.length (Nat.le_refl _) (by omega) (by rw [List.take_of_length_le (by simp; omega)]; exact hcells)
    refine .val (v := .pointer (some ⟨w.heap.size, 0, none⟩)) ?_ ?_ R' X
    · unfold execOp; rw [ho]; simp only [Instr.box, Sem.run_bind, newVar, newRow, run_newObj, Result.andThen_ok, Sem.run_pure]; rfl
    · simp only [vrel]
      exact ⟨_, rfl, by simp, Nat.zero_le _, fun _ => by simp⟩
  · simp at he

theorem sim_nilCheck {x : Operand} {ax : AOpd} (ho : o.op = .nilCheck x) (hx : cOpd P x = some ax) (he : aop e h (.nilCheck ax) = some (av, h')) : Did P o a.eval h β w av h' := by
  simp only [aop, opMov, opPick, opAlloc, opBox, opBuild, opBuildSlice, opLoad, opStore, opNilCheck, opBin, opEql, opUn, opConv, opB2s, opMkIface, opMkFn, opMkMap, opMkSlice, opSlice, opFieldAddr, opField, opIdxS, opIdxA, opIndex, opIndexStr, opLookup, opMapUpd, opAssertT, opExtract, opLenS, opLenT, opLenM, opMin, opMax, opAppend, opCopy, opDelete] at he
  have rx := opd_vrel G hx
  split at he
  · rename_i id g off hh
    simp only [Option.some.injEq, Prod.mk.injEq] at he
    obtain ⟨rfl, rfl⟩ := he
    rw [hh] at rx
    have rx' := rx
    simp only [vrel] at rx
    obtain ⟨ad, ev, _⟩ := rx
    exact .pure G.rel (by unfold execOp; rw [ho]; simp only [ev]; rfl) (by rw [← ev]; exact rx')
  · rename_i f x1 x2 hh
    simp only [Option.some.injEq, Prod.mk.injEq] at he
    obtain ⟨rfl, rfl⟩ := he
    rw [hh] at rx
    have rx' := rx
    simp only [vrel] at rx
    obtain ⟨p, q, ev, _⟩ := rx
    exact .pure G.rel (by unfold execOp; rw [ho]; simp only [ev]; rfl) (by rw [← ev]; exact rx')
  · rename_i f x1 x2 hh
    simp only [Option.some.injEq, Prod.mk.injEq] at he
    obtain ⟨rfl, rfl⟩ := he
    rw [hh] at rx
    have rx' := rx
    simp only [vrel] at rx
    obtain ⟨p, q, ev, _⟩ := rx
    exact .pure G.rel (by unfold execOp; rw [ho]; simp only [ev]; rfl) (by rw [← ev]; exact rx')
  · rename_i id hh
    simp only [Option.some.injEq, Prod.mk.injEq] at he
    obtain ⟨rfl, rfl⟩ := he
    rw [hh] at rx
    have rx' := rx
    simp only [vrel] at rx
    obtain ⟨p, ev, _⟩ := rx
    exact .pure G.rel (by unfold execOp; rw [ho]; simp only [ev]; rfl) (by rw [← ev]; exact rx')
  · simp at he

theorem sim_fieldAddr {t : TypeId} {x : Operand} {i : Nat} {f : Field} {s : Nat} {ax : AOpd} (ho : o.op = .fieldAddr t x i) (hf : structField P t i = some f) (hs : sizeT P f.type = some (s + 1)) (hx : cOpd P x = some ax)
    (he : aop e h (.fieldAddr f.offset ax) = some (av, h')) : Did P o a.eval h β w av h' := by
  simp only [aop, opMov, opPick, opAlloc, opBox, opBuild, opBuildSlice, opLoad, opStore, opNilCheck, opBin, opEql, opUn, opConv, opB2s, opMkIface, opMkFn, opMkMap, opMkSlice, opSlice, opFieldAddr, opField, opIdxS, opIdxA, opIndex, opIndexStr, opLookup, opMapUpd, opAssertT, opExtract, opLenS, opLenT, opLenM, opMin, opMax, opAppend, opCopy, opDelete] at he
  have rx := opd_vrel G hx
  split at he
  · rename_i id g off hh
    simp only [Option.some.injEq, Prod.mk.injEq] at he
    obtain ⟨rfl, rfl⟩ := he
    rw [hh] at rx
    simp only [vrel] at rx
    obtain ⟨ad, ev, hp1, hp2, hp3⟩ := rx
    simp only [structField] at hf
    split at hf
    · rename_i fs hu
      simp only [sizeT, Option.map_eq_some_iff] at hs
      obtain ⟨ti, hti, hsz⟩ := hs
      refine .pure G.rel (v := .pointer (some (ad.add f.offset))) ?_ ?_
      · unfold execOp; rw [ho]
        simp [Instr.fieldAt, run_underlying_of hu, hf, ev, Instr.sureAddr, fieldPlace, run_sizeOf_of hti, hsz]
      · simp only [vrel]
        refine ⟨_, rfl, hp1, hp2, fun eg => ?_⟩
        rw [hp3 eg, addr_add, Nat.add_assoc]
    · simp at hf
  · simp at he

theorem sim_load {t : TypeId} {x : Operand} {n : Option Nat} {ax : AOpd} (ho : o.op = .load t x) (hn : aggN P t = some n) (hx : cOpd P x = some ax)
    (he : aop e h (.load n ax) = some (av, h')) : Did P o a.eval h β w av h' := by
  simp only [aop, opMov, opPick, opAlloc, opBox, opBuild, opBuildSlice, opLoad, opStore, opNilCheck, opBin, opEql, opUn, opConv, opB2s, opMkIface, opMkFn, opMkMap, opMkSlice, opSlice, opFieldAddr, opField, opIdxS, opIdxA, opIndex, opIndexStr, opLookup, opMapUpd, opAssertT, opExtract, opLenS, opLenT, opLenM, opMin, opMax, opAppend, opCopy, opDelete] at he
  have rx := opd_vrel G hx
  split at he
  · rename_i id g off hh
    rw [hh] at rx
    simp only [vrel] at rx
    obtain ⟨ad, ev, hp1, hp2, hp3⟩ := rx
    rw [if_pos hp1] at he
    simp only [aggN, isAggT, Option.bind_eq_some_iff, Option.map_eq_some_iff] at hn
    obtain ⟨b, ⟨d, hd, hb⟩, hn⟩ := hn
    have hagg : (isAgg t).run P w = .ok b w := by
      unfold isAgg
      simp only [Sem.run_bind, run_underlying_of hd, Result.andThen_ok]
      subst hb
      cases d <;> rfl
    split at he
    · -- one cell
      simp only [Option.bind_eq_some_iff] at he
      obtain ⟨cs, hrd, he⟩ := he
      split at he
      · rename_i v
        simp only [Option.some.injEq, Prod.mk.injEq] at he
        obtain ⟨rfl, rfl⟩ := he
        have hbf : b = false := by
          cases b
          · rfl
          · rw [if_pos rfl] at hn; simp only [Option.map_eq_some_iff] at hn; obtain ⟨_, _, h2⟩ := hn; cases h2
        subst hbf
        obtain ⟨hg, vs, hvs, hvl, _, hc⟩ := read_at G.rel hp1 hrd
        obtain ⟨v', ws, rfl, hv', _⟩ := vrels_cons.1 hvs
        have h0 := hc 0 v' rfl
        have ha := hp3 hg
        subst ha
        have h0' : w.cell? ⟨(β id).b, (β id).o + off, none⟩ = some v' := by simpa [Addr.add] using h0
        refine .pure G.rel (v := v') ?_ hv'
        unfold execOp; rw [ho]
        simp [Instr.loadAt, ev, Instr.sureAddr, loadVar, hagg, h0']
      · simp at he
    · rename_i m
      simp only [Option.map_eq_some_iff, Prod.mk.injEq] at he
      obtain ⟨cs, hrd, rfl, rfl⟩ := he
      have hbt : b = true ∧ sizeT P t = some m := by
        cases b
        · simp at hn
        · rw [if_pos rfl] at hn; simp only [Option.map_eq_some_iff] at hn; obtain ⟨k, h1, h2⟩ := hn; cases h2; exact ⟨rfl, h1⟩
      obtain ⟨rfl, hsz⟩ := hbt
      simp only [sizeT, Option.map_eq_some_iff] at hsz
      obtain ⟨ti, hti, hsz⟩ := hsz
      obtain ⟨hg, vs, hvs, hvl, _, hc⟩ := read_at G.rel hp1 hrd
      have ha := hp3 hg
      subst ha
      have hld := run_loadCells_list (P := P) w ⟨(β id).b, (β id).o + off, none⟩ vs hc
      rw [hvl] at hld
      refine .pure G.rel (v := .agg vs.toArray) ?_ (by simp only [vrel]; exact ⟨_, rfl, by simpa using hvs⟩)
      unfold execOp; rw [ho]
      simp [Instr.loadAt, ev, Instr.sureAddr, loadVar, hagg, run_sizeOf_of hti, hsz, hld]
  · simp at he

theorem sim_store {t : TypeId} {x y : Operand} {n : Nat} {ax ay : AOpd} (ho : o.op = .store t x y) (hn : sizeT P t = some n) (hx : cOpd P x = some ax) (hy : cOpd P y = some ay)
    (he : aop e h (.store n ax ay) = some (av, h')) : Did P o a.eval h β w av h' := by
  simp only [aop, opMov, opPick, opAlloc, opBox, opBuild, opBuildSlice, opLoad, opStore, opNilCheck, opBin, opEql, opUn, opConv, opB2s, opMkIface, opMkFn, opMkMap, opMkSlice, opSlice, opFieldAddr, opField, opIdxS, opIdxA, opIndex, opIndexStr, opLookup, opMapUpd, opAssertT, opExtract, opLenS, opLenT, opLenM, opMin, opMax, opAppend, opCopy, opDelete] at he
  have rx := opd_vrel G hx
  split at he
  · rename_i id g off hh
    rw [hh] at rx
    simp only [vrel] at rx
    obtain ⟨ad, ev, hp1, hp2, hp3⟩ := rx
    split at he
    · rename_i hc
      simp only [Option.map_eq_some_iff, Prod.mk.injEq] at he
      obtain ⟨h2, hw, rfl, rfl⟩ := he
      have hall : (opd e ay).cells.all (·.cell) = true := by
        unfold AHeap.wr at hw
        split at hw
        · split at hw
          · rename_i hcc; exact hcc.2.2
          · simp at hw
        · simp at hw
      have hcells := cells_vrels G hy hall
      have hl := vrels_length hcells
      simp only [sizeT, Option.map_eq_some_iff] at hn
      obtain ⟨ti, hti, hsz⟩ := hn
      obtain ⟨hg, w', hst, R', X⟩ := write_at (P := P) G.rel hp1 hw hcells
      have ha := hp3 hg
      subst ha
      refine ⟨w', β, .inr ⟨?_, rfl⟩, R', X⟩
      unfold execOp; rw [ho]
      simp only [Instr.storeAt, ev, Instr.sureAddr, storeVar, Sem.run_bind, Sem.run_pure, Result.andThen_ok, run_sizeOf_of hti, hsz]
      have hsz2 : (a.eval y).cells.size = n := by simpa [hc.2] using hl
      rw [if_neg (by simp [hsz2])]
      simp [hst]
    · simp at he
  · simp at he

end
end Go.AM
