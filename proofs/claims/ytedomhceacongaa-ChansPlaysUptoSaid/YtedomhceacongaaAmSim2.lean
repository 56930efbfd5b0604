/-
  AM, part 9: more operations.
-/
import Derived.Test.YtedomhceacongaaAmSim
namespace Go.AM
set_option linter.unusedVariables false
set_option linter.unusedSimpArgs false

theorem foldl_set (xs : List Value) : ∀ (k off : Nat) (cs : Array Value), off + k + xs.length ≤ cs.size →
    ((xs.zipIdx k).foldl (fun (cs : Array Value) (p : Value × Nat) => cs.setIfInBounds (off + p.2) p.1) cs).toList = cs.toList.take (off + k) ++ xs ++ cs.toList.drop (off + k + xs.length) := by
  induction xs with
  | nil => intro k off cs h; simp
  | cons x xs ih =>
    intro k off cs h
    simp only [List.zipIdx_cons, List.foldl_cons]
    rw [ih (k + 1) off (cs.setIfInBounds (off + k) x) (by simp at h ⊢; omega)]
    have := list_seg_step cs.toList (off + k) x xs (by simp at h ⊢; omega)
    simpa [Array.toList_setIfInBounds, Nat.add_assoc] using this

theorem fill_run {h : AHeap} {β : Pl} (place : Nat → Option (Nat × Nat)) : ∀ (ps : List (Nat × Value)) (qs : List (Nat × Nat × AVal)) (cells : Array Value) (cs rs : List AVal),
    vrels h β cs cells.toList → qs.length = ps.length → (∀ (j i : Nat) (v : Value), ps[j]? = some (i, v) → ∃ (o s : Nat) (x : AVal), qs[j]? = some (o, s, x) ∧ place i = some (o, s) ∧ (x.cells.all (·.cell) = true → vrels h β x.cells v.cells.toList)) →
    fillP cs qs = some rs → ∃ out, Instr.fill place cells ps = some out ∧ vrels h β rs out.toList
  | [], qs, cells, cs, rs, hc, hl, hq, hf => by
    obtain rfl : qs = [] := List.eq_nil_of_length_eq_zero (by simpa using hl)
    simp only [fillP, Option.some.injEq] at hf
    subst hf
    exact ⟨cells, rfl, hc⟩
  | (i, v) :: ps, [], cells, cs, rs, hc, hl, hq, hf => by simp at hl
  | (i, v) :: ps, (o, s, x) :: qs, cells, cs, rs, hc, hl, hq, hf => by
    obtain ⟨o', s', x', e1, hp, hx⟩ := hq 0 i v rfl
    simp only [List.getElem?_cons_zero, Option.some.injEq, Prod.mk.injEq] at e1
    obtain ⟨rfl, rfl, rfl⟩ := e1
    simp only [fillP] at hf
    split at hf
    · rename_i hcond
      obtain ⟨h1, h2, h3⟩ := hcond
      have hv := hx h3
      have hvl := vrels_length hv
      have hcl := vrels_length hc
      simp at hvl hcl
      simp only [Instr.fill, hp]
      rw [if_neg (by simp; omega)]
      refine fill_run place ps qs _ _ rs ?_ (by simpa using hl) (fun j i v hj => hq (j + 1) i v hj) hf
      rw [← Array.foldl_toList, Array.toList_zipIdx]
      have := foldl_set v.cells.toList 0 o cells (by simp; omega)
      simp only [Nat.add_zero] at this
      rw [this]
      have e2 : v.cells.toList.length = s := by simp; omega
      rw [e2]
      exact vrels_append (vrels_append (vrels_take o hc) hv) (vrels_drop _ hc)
    · simp at hf

theorem run_placesOf {P : Program} {w : World} : ∀ {fs : List Field} {pl : List (Nat × Nat)}, placesOf P fs = some pl →
    (fs.mapM fun (f : Field) => (do pure (f.offset, ← sizeOf f.type) : Sem (Nat × Nat))).run P w = .ok pl w
  | [], pl, e => by simp [placesOf] at e; subst e; rfl
  | f :: fs, pl, e => by
    simp only [placesOf, Option.bind_eq_some_iff, Option.map_eq_some_iff] at e
    obtain ⟨s, h1, pl', h2, rfl⟩ := e
    simp only [sizeT, Option.map_eq_some_iff] at h1
    obtain ⟨i, hi, rfl⟩ := h1
    have ih := run_placesOf (w := w) h2
    simp only [List.mapM_cons, Sem.run_bind, run_sizeOf_of hi, Result.andThen_ok, Sem.run_pure, ih]

section
variable {P : Program} {h h' : AHeap} {β : Pl} {w : World} {e : Env} {a : Act} {o : Oper} {av : AVal} (G : Good P h β w e a.tmps)
 include G

theorem parts_rel (pl : Nat → Option (Nat × Nat)) : ∀ {ps : List (Nat × Operand)} {qs : List (Nat × Nat × AOpd)}, cParts P pl ps = some qs →
    (qs.map fun (o, s, x) => (o, s, opd e x)).length = (ps.map fun (i, x) => (i, a.eval x)).length ∧
    ∀ (j i : Nat) (v : Value), (ps.map fun (i, x) => (i, a.eval x))[j]? = some (i, v) → ∃ (o s : Nat) (x : AVal), (qs.map fun (o, s, x) => (o, s, opd e x))[j]? = some (o, s, x) ∧ pl i = some (o, s) ∧ (x.cells.all (·.cell) = true → vrels h β x.cells v.cells.toList)
  | [], qs, hq => by simp [cParts] at hq; subst hq; simp
  | (i, x) :: ps, qs, hq => by
    simp only [cParts, Option.bind_eq_some_iff, Option.map_eq_some_iff, Prod.exists] at hq
    obtain ⟨o, s, h1, b, h2, qs', h3, rfl⟩ := hq
    obtain ⟨hl, hr⟩ := parts_rel pl h3
    refine ⟨by simpa using hl, fun j i' v hj => ?_⟩
    cases j with
    | zero =>
      simp only [List.map_cons, List.getElem?_cons_zero, Option.some.injEq, Prod.mk.injEq] at hj ⊢
      obtain ⟨rfl, rfl⟩ := hj
      exact ⟨o, s, _, ⟨rfl, rfl, rfl⟩, h1, fun hc => cells_vrels G h2 hc⟩
    | succ j =>
      simp only [List.map_cons, List.getElem?_cons_succ] at hj ⊢
      exact hr j i' v hj

theorem sim_build {t : TypeId} {ps : Array (Nat × Operand)} {b : AOp} (ho : o.op = .build t ps) (hb : cOp P (.build t ps) = some b) (he : aop e h b = some (av, h')) : Did P o a.eval h β w av h' := by
  simp only [cOp, Option.bind_eq_some_iff] at hb
  obtain ⟨z, hz, hb⟩ := hb
  have hz' := hz
  simp only [zeroT, Option.bind_eq_some_iff] at hz
  obtain ⟨ti, hti, zv, hzv, hz⟩ := hz
  have hzc := (ofZero_vrel hz h β).2.1
  split at hb
  · rename_i zs
    simp only [AVal.cells] at hzc
    split at hb
    · rename_i fs hu
      simp only [Option.bind_eq_some_iff, Option.map_eq_some_iff] at hb
      obtain ⟨pl, hpl, qs, hqs, rfl⟩ := hb
      simp only [aop, opMov, opPick, opAlloc, opBox, opBuild, opBuildSlice, opLoad, opStore, opNilCheck, opBin, opEql, opUn, opConv, opB2s, opMkIface, opMkFn, opMkMap, opMkSlice, opSlice, opFieldAddr, opField, opIdxS, opIdxA, opIndex, opIndexStr, opLookup, opMapUpd, opAssertT, opExtract, opLenS, opLenT, opLenM, opMin, opMax, opAppend, opCopy, opDelete, Option.map_eq_some_iff, Prod.mk.injEq] at he
      obtain ⟨cs, hf, rfl, rfl⟩ := he
      obtain ⟨hl, hr⟩ := parts_rel G _ hqs
      obtain ⟨out, hout, hv⟩ := fill_run (pl[·]?) _ _ zv.cells zs cs hzc hl hr hf
      refine .pure G.rel (v := .agg out) ?_ (by simp only [vrel]; exact ⟨_, rfl, hv⟩)
      unfold execOp; rw [ho]
      have hpl' := run_placesOf (P := P) (w := w) hpl
      have hpl2 : (fs.mapM fun (f : Field) => (do pure (f.offset, ← sizeOf f.type) : Sem (Nat × Nat))).run P w = .ok pl.toArray w := by
        rw [Array.mapM_eq_mapM_toList]
        simp only [Sem.run_bind, Sem.run_map, hpl', Result.andThen_ok]
      have hout' : Instr.fill (fun (x : Nat) => pl.toArray[x]?) zv.cells ((Array.map (fun (x : Nat × Operand) => (x.1, a.eval x.2)) ps).toList) = some out := by
        have e1 : (fun (x : Nat) => pl.toArray[x]?) = (fun (x : Nat) => pl[x]?) := by funext x; simp
        rw [e1, Array.toList_map]; exact hout
      simp only [Instr.build, Sem.run_bind, run_zeroValue_of hti hzv, run_underlying_of hu, Result.andThen_ok, hpl2]
      have : (Array.map (fun x => match x with | (i, x) => (i, a.eval x)) ps).toList = (Array.map (fun (x : Nat × Operand) => (x.1, a.eval x.2)) ps).toList := rfl
      rw [this, hout']
      rfl
    · rename_i n el hu
      simp only [Option.bind_eq_some_iff, Option.map_eq_some_iff] at hb
      obtain ⟨s, hs, qs, hqs, rfl⟩ := hb
      simp only [aop, opMov, opPick, opAlloc, opBox, opBuild, opBuildSlice, opLoad, opStore, opNilCheck, opBin, opEql, opUn, opConv, opB2s, opMkIface, opMkFn, opMkMap, opMkSlice, opSlice, opFieldAddr, opField, opIdxS, opIdxA, opIndex, opIndexStr, opLookup, opMapUpd, opAssertT, opExtract, opLenS, opLenT, opLenM, opMin, opMax, opAppend, opCopy, opDelete, Option.map_eq_some_iff, Prod.mk.injEq] at he
      obtain ⟨cs, hf, rfl, rfl⟩ := he
      obtain ⟨hl, hr⟩ := parts_rel G _ hqs
      obtain ⟨out, hout, hv⟩ := fill_run _ _ _ zv.cells zs cs hzc hl hr hf
      simp only [sizeT, Option.map_eq_some_iff] at hs
      obtain ⟨ei, hei, rfl⟩ := hs
      refine .pure G.rel (v := .agg out) ?_ (by simp only [vrel]; exact ⟨_, rfl, hv⟩)
      unfold execOp; rw [ho]
      simp only [Instr.build, Sem.run_bind, run_zeroValue_of hti hzv, run_underlying_of hu, Result.andThen_ok, run_sizeOf_of hei]
      have : (Array.map (fun x => match x with | (i, x) => (i, a.eval x)) ps).toList = ps.toList.map (fun (x : Nat × Operand) => (x.1, a.eval x.2)) := by rw [Array.toList_map]
      rw [this]
      have hout' : Instr.fill (fun i => some (i * ei.size, ei.size)) zv.cells (ps.toList.map (fun (x : Nat × Operand) => (x.1, a.eval x.2))) = some out := hout
      rw [hout']
      rfl
    · simp at hb
  · simp at hb

theorem eInfo_of {E : TypeId} {s b : Nat} {z : List AVal} (hi : eInfo P E = some (s, b, z)) : ∃ zv, EInfo P E s b zv ∧ vrels h β z zv.cells.toList ∧ z.all (·.cell) = true := by
  have _ := G.g
  simp only [eInfo, Option.bind_eq_some_iff] at hi
  obtain ⟨i, hi, zv, hzv, av, hav, hc⟩ := hi
  split at hc
  · rename_i hcond
    obtain ⟨c1, c2, c3, c4⟩ := hcond
    simp only [Option.some.injEq, Prod.mk.injEq] at hc
    obtain ⟨rfl, rfl, rfl⟩ := hc
    exact ⟨zv, ⟨c1, c2, c3, ⟨i, hi, rfl, rfl, hzv⟩, c4⟩, (ofZero_vrel hav h β).2.1, (ofZero_vrel hav h β).2.2⟩
  · simp at hc

 omit G in
theorem elemT_of {t E : TypeId} (hE : elemT P t = some E) : P.underlying t = some (.slice E) := by
  unfold elemT at hE
  split at hE
  · simp at hE; subst hE; assumption
  · simp at hE

 omit G in
theorem zeros_vrels {zs : List AVal} {z : Array Value} {s : Nat} (hz : vrels h β zs z.toList) (hs : z.size = s) (hp : 0 < s) (n : Nat) :
    vrels h β ((List.range n).map fun i => zs.getD (i % s) .undef) (((Array.range n).map fun i => z[i % z.size]!).toList) := by
  rw [Array.toList_map, Array.toList_range]
  have hl := vrels_length hz
  induction (List.range n) with
  | nil => simp [vrels]
  | cons i l ih =>
    simp only [List.map_cons]
    refine vrels_cons_cons.2 ⟨?_, ih⟩
    have hi : i % s < zs.length := by
      have := Nat.mod_lt i hp
      simp at hl; omega
    obtain ⟨v, hv, hr⟩ := vrels_get hz (i := i % s) (List.getElem?_eq_getElem hi)
    have e1 : zs.getD (i % s) .undef = zs[i % s] := by simp [List.getD, List.getElem?_eq_getElem hi]
    rw [e1, hs]
    have e2 : z[i % s]! = v := by
      rw [Array.getElem?_toList] at hv
      simp [getElem!_def, hv]
    rw [e2]; exact hr

 omit G in
theorem new_slice (R : Rel h β w) (E : TypeId) {vs : List AVal} {c : Array Value} (n esz : Nat) (hv : vs.length = n * esz) (hr : vrels h β vs c.toList) :
    ∃ β', Rel (h.push (.cells 0 false vs)) β' (w.alloc (.cells c E)) ∧ Ext h β w (h.push (.cells 0 false vs)) β' (w.alloc (.cells c E)) ∧
      vrel (h.push (.cells 0 false vs)) β' (.sl h.n 0 0 n esz) (.slice (some ⟨w.heap.size, 0, none⟩) n n) := by
  have hl := vrels_length hr
  simp at hl
  obtain ⟨R', X⟩ := new_row R E (vs := vs) (c := c) vs.length (Nat.le_refl _) (by omega) (by rw [List.take_of_length_le (by simp; omega)]; exact hr)
  refine ⟨_, R', X, ?_⟩
  simp only [vrel]
  refine ⟨_, n, rfl, by simp, Nat.zero_le _, fun _ => ?_⟩
  rw [updP_same]
  exact ⟨Nat.le_refl _, by simp [hv], fun _ => rfl⟩

theorem partsS_rel (s : Nat) : ∀ {ps : List (Nat × Operand)} {qs : List (Nat × AOpd)}, cPartsS P ps = some qs →
    (qs.map fun (i, x) => (i * s, s, opd e x)).length = (ps.map fun (i, x) => (i, a.eval x)).length ∧
    ∀ (j i : Nat) (v : Value), (ps.map fun (i, x) => (i, a.eval x))[j]? = some (i, v) → ∃ (o s' : Nat) (x : AVal), (qs.map fun (i, x) => (i * s, s, opd e x))[j]? = some (o, s', x) ∧ some (i * s, s) = some (o, s') ∧ (x.cells.all (·.cell) = true → vrels h β x.cells v.cells.toList)
  | [], qs, hq => by simp [cPartsS] at hq; subst hq; simp
  | (i, x) :: ps, qs, hq => by
    simp only [cPartsS, Option.bind_eq_some_iff, Option.map_eq_some_iff] at hq
    obtain ⟨b, h2, qs', h3, rfl⟩ := hq
    obtain ⟨hl, hr⟩ := partsS_rel s h3
    refine ⟨by simpa using hl, fun j i' v hj => ?_⟩
    cases j with
    | zero =>
      simp only [List.map_cons, List.getElem?_cons_zero, Option.some.injEq, Prod.mk.injEq] at hj ⊢
      obtain ⟨rfl, rfl⟩ := hj
      exact ⟨_, _, _, ⟨rfl, rfl, rfl⟩, ⟨rfl, rfl⟩, fun hc => cells_vrels G h2 hc⟩
    | succ j =>
      simp only [List.map_cons, List.getElem?_cons_succ] at hj ⊢
      exact hr j i' v hj

 omit G in
theorem fillP_length : ∀ {ps : List (Nat × Nat × AVal)} {cs rs : List AVal}, fillP cs ps = some rs → rs.length = cs.length
  | [], cs, rs, hf => by simp [fillP] at hf; subst hf; rfl
  | (o, s, v) :: ps, cs, rs, hf => by
    simp only [fillP] at hf
    split at hf
    · rename_i hc
      rw [fillP_length hf]; simp; omega
    · simp at hf

theorem sim_buildSlice {t E : TypeId} {n s b : Nat} {z : List AVal} {ps : Array (Nat × Operand)} {qs : List (Nat × AOpd)} (ho : o.op = .buildSlice t n ps) (hE : elemT P t = some E) (hi : eInfo P E = some (s, b, z)) (hn : n * s ≤ 16777216)
    (hq : cPartsS P ps.toList = some qs) (he : aop e h (.buildSlice s n z qs) = some (av, h')) : Did P o a.eval h β w av h' := by
  simp only [aop, opMov, opPick, opAlloc, opBox, opBuild, opBuildSlice, opLoad, opStore, opNilCheck, opBin, opEql, opUn, opConv, opB2s, opMkIface, opMkFn, opMkMap, opMkSlice, opSlice, opFieldAddr, opField, opIdxS, opIdxA, opIndex, opIndexStr, opLookup, opMapUpd, opAssertT, opExtract, opLenS, opLenT, opLenM, opMin, opMax, opAppend, opCopy, opDelete, Option.map_eq_some_iff, Prod.mk.injEq] at he
  obtain ⟨cs, hf, rfl, rfl⟩ := he
  obtain ⟨zv, hI, hzv, hzc⟩ := eInfo_of G hi
  obtain ⟨hl, hr⟩ := partsS_rel G s hq
  have hz := zeros_vrels hzv hI.zsize hI.pos (n * s)
  obtain ⟨out, hout, hv⟩ := fill_run (fun i => some (i * s, s)) _ _ _ _ cs hz hl hr hf
  have hcl := fillP_length hf
  obtain ⟨β', R', X, hvr⟩ := new_slice G.rel E (c := out) n s (by rw [hcl]; simp) hv
  refine .val ?_ hvr R' X
  obtain ⟨i, hti, hsz, hby, hzz⟩ := hI.info
  unfold execOp; rw [ho]
  simp only [Instr.buildSlice, Sem.run_bind, run_underlying_of (elemT_of hE), Result.andThen_ok, run_sizeOf_of hti, hsz]
  rw [if_neg (by omega)]
  have e3 : (Array.map (fun x => match x with | (i, x) => (i, a.eval x)) ps).toList = ps.toList.map (fun (x : Nat × Operand) => (x.1, a.eval x.2)) := by rw [Array.toList_map]
  have hout' : Instr.fill (fun i => some (i * s, s)) (Array.map (fun i => zv.cells[i % zv.cells.size]!) (Array.range (n * s))) (ps.toList.map (fun (x : Nat × Operand) => (x.1, a.eval x.2))) = some out := hout
  by_cases h0 : n * s = 0
  · simp only [h0, if_true, Sem.run_bind, Sem.run_pure, Result.andThen_ok, e3]
    have e4 : (Array.map (fun i => (#[] : Array Value)[i % (#[] : Array Value).size]!) (Array.range 0)) = Array.map (fun i => zv.cells[i % zv.cells.size]!) (Array.range (n * s)) := by rw [h0]; simp
    rw [e4, hout']
    simp only [Sem.run_bind, newRow, run_newObj, Result.andThen_ok, Sem.run_pure]
    rfl
  · simp only [h0, if_false, Sem.run_bind, run_zeroValue_of hti hzz, Sem.run_pure, Result.andThen_ok, e3, hout', newRow, run_newObj]
    rfl

theorem sim_mkSlice {t E : TypeId} {s b : Nat} {z : List AVal} {l c : Operand} {al : AOpd} (ho : o.op = .makeSlice t l c) (hlc : a.eval l = a.eval c) (hE : elemT P t = some E) (hi : eInfo P E = some (s, b, z))
    (hl : cOpd P l = some al) (he : aop e h (.mkSlice s b z al) = some (av, h')) : Did P o a.eval h β w av h' := by
  simp only [aop, opMov, opPick, opAlloc, opBox, opBuild, opBuildSlice, opLoad, opStore, opNilCheck, opBin, opEql, opUn, opConv, opB2s, opMkIface, opMkFn, opMkMap, opMkSlice, opSlice, opFieldAddr, opField, opIdxS, opIdxA, opIndex, opIndexStr, opLookup, opMapUpd, opAssertT, opExtract, opLenS, opLenT, opLenM, opMin, opMax, opAppend, opCopy, opDelete] at he
  have rl := opd_vrel G hl
  split at he
  · rename_i k n hh
    rw [hh] at rl
    simp only [vrel] at rl
    split at he
    · rename_i hc
      obtain ⟨c1, c2, c3⟩ := hc
      simp only [Option.some.injEq, Prod.mk.injEq] at he
      obtain ⟨rfl, rfl⟩ := he
      obtain ⟨zv, hI, hzv, hzc⟩ := eInfo_of G hi
      have hz := zeros_vrels hzv hI.zsize hI.pos (n.toNat * s)
      obtain ⟨β', R', X, hvr⟩ := new_slice G.rel E n.toNat s (by simp) hz
      refine .val ?_ hvr R' X
      obtain ⟨i, hti, hsz, hby, hzz⟩ := hI.info
      have hbp := hI.bpos
      have hsp := hI.pos
      obtain ⟨m, rfl⟩ := Int.eq_ofNat_of_zero_le c1
      simp only [Int.toNat_natCast] at c2 c3 ⊢
      have hm : m ≤ 1099511627776 := Nat.le_trans (Nat.le_mul_of_pos_right m hbp) c2
      have hw : IntKind.i64.wrap (m : Int) = (m : Int) := by simp [IntKind.wrap, IntKind.signed, IntKind.bits]; omega
      have hbm : ((b : Int) * (m : Int)) ≤ 1099511627776 := by
        have h1 : b * m ≤ 1099511627776 := by rw [Nat.mul_comm]; exact c2
        have h2 : ((b : Int) * (m : Int)) = ((b * m : Nat) : Int) := by rw [Int.natCast_mul]
        omega
      unfold execOp; rw [ho]
      simp only [Instr.makeSlice, Sem.run_bind, run_underlying_of (elemT_of hE), Result.andThen_ok, rl, ← hlc, asInt, asIntOf, Sem.run_pure, run_typeInfo_of hti, hby, hw, run_sizeOf_of hti, hsz, run_askRoom, Int.toNat_natCast]
      rw [if_neg (by simp only [Bool.or_eq_true, decide_eq_true_eq]; omega)]
      simp only [Sem.run_bind, run_askRoom, run_sizeOf_of hti, hsz, Result.andThen_ok, Int.toNat_natCast]
      have e5 : ∀ f : Nat → Value, Array.map f (Array.range 0) = #[] := by intro f; simp
      by_cases h0 : m * s = 0
      · simp only [h0, if_true, Sem.run_bind, Sem.run_pure, Result.andThen_ok, run_askRoom, newRow, run_newObj, e5]
        rfl
      · simp only [h0, if_false, Sem.run_bind, Sem.run_pure, Result.andThen_ok, run_askRoom, run_zeroValue_of hti hzz, newRow, run_newObj]
        rfl
    · simp at he
  · simp at he

end
end Go.AM
