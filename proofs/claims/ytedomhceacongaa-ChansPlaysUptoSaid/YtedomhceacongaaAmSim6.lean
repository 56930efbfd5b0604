/-
  AM, part 13: maps, lengths, append and copy, texts of bytes.
-/
import Derived.Test.YtedomhceacongaaAmSim5
namespace Go.AM
set_option linter.unusedVariables false
set_option linter.unusedSimpArgs false

/-- A round of the model's loop over bytes. -/
def bstep (c : Value) (s : ByteArray) : Sem (ForInStep ByteArray) :=
  match c with
  | .int .u8 n => pure (.yield (s.push (UInt8.ofNat n.toNat)))
  | _ => do stuck "bytesToString: byte expected"; pure (.yield s)

theorem asBytes_run {P : Program} {w : World} {h : AHeap} {β : Pl} : ∀ {cs : List AVal} {vs : List Value} {bs : List UInt8} (s0 : ByteArray), asBytes cs = some bs → vrels h β cs vs →
    (forIn vs s0 bstep).run P w = .ok ⟨s0.data ++ bs.toArray⟩ w
  | [], vs, bs, s0, e, r => by
    rw [vrels_nil] at r; subst r
    simp only [asBytes, Option.some.injEq] at e; subst e
    simp
  | c :: cs, vs, bs, s0, e, r => by
    obtain ⟨v, ws, rfl, r1, r2⟩ := vrels_cons.1 r
    unfold asBytes at e
    split at e
    · rename_i heq; cases heq
    · rename_i n r' heq
      cases heq
      simp only [Option.map_eq_some_iff] at e
      obtain ⟨bs', e', rfl⟩ := e
      simp only [vrel] at r1
      subst r1
      have ih := asBytes_run (w := w) (P := P) (s0.push (UInt8.ofNat n.toNat)) e' r2
      simp only [List.forIn_cons, Sem.run_bind, bstep, Sem.run_pure, Result.andThen_ok, ih]
      congr 1
      congr 1
      apply Array.ext'
      simp [ByteArray.push]
    · simp at e

section
variable {P : Program} {h h' : AHeap} {β : Pl} {w : World} {e : Env} {a : Act} {o : Oper} {av : AVal} (G : Good P h β w e a.tmps)
 include G

theorem sim_b2s {s d E : TypeId} {x : Operand} {ax : AOpd} (ho : o.op = .convert s d x) (hs : P.underlying s = some (.slice E)) (hE : P.underlying E = some (.int .u8)) (hd : P.underlying d = some .string) (hx : cOpd P x = some ax)
    (he : aop e h (.b2s ax) = some (av, h')) : Did P o a.eval h β w av h' := by
  simp only [aop, opMov, opPick, opAlloc, opBox, opBuild, opBuildSlice, opLoad, opStore, opNilCheck, opBin, opEql, opUn, opConv, opB2s, opMkIface, opMkFn, opMkMap, opMkSlice, opSlice, opFieldAddr, opField, opIdxS, opIdxA, opIndex, opIndexStr, opLookup, opMapUpd, opAssertT, opExtract, opLenS, opLenT, opLenM, opMin, opMax, opAppend, opCopy, opDelete] at he
  have rx := opd_vrel G hx
  split at he
  · rename_i hh
    rw [hh] at rx
    simp only [vrel] at rx
    simp only [Option.some.injEq, Prod.mk.injEq] at he
    obtain ⟨rfl, rfl⟩ := he
    refine .pure G.rel (v := .string .empty) ?_ (by simp [vrel])
    unfold execOp; rw [ho]
    simp only [convert, Sem.run_bind, rx, run_underlying_of hs, run_underlying_of hd, Result.andThen_ok, run_underlying_of hE]
    rfl
  · rename_i id g off len hh
    split at he
    · rename_i hid
      simp only [Option.bind_eq_some_iff, Option.map_eq_some_iff, Prod.mk.injEq] at he
      obtain ⟨cs, hrd, bs, hbs, rfl, rfl⟩ := he
      obtain ⟨hg, vs, hvs, hvl, hcl, hc⟩ := read_at G.rel hid hrd
      rw [hh] at rx
      simp only [vrel] at rx
      obtain ⟨ad, cap, ev, hs1, hs2, hs3⟩ := rx
      obtain ⟨h1, h2, h3⟩ := hs3 hg
      have hld : (loadCells ad len).run P w = .ok vs.toArray w := by
        by_cases h0 : len = 0
        · subst h0
          have : vs = [] := List.eq_nil_of_length_eq_zero hvl
          subst this
          simp [loadCells, loadCellsFrom]
        · have ha := h3 (by omega)
          subst ha
          have := run_loadCells_list (P := P) w _ vs hc
          rw [hvl] at this; exact this
      refine .pure G.rel (v := .string ⟨bs.toArray⟩) ?_ (by simp [vrel])
      unfold execOp; rw [ho]
      have hf := asBytes_run (P := P) (w := w) ByteArray.empty hbs hvs
      simp only [convert, Sem.run_bind, ev, run_underlying_of hs, run_underlying_of hd, Result.andThen_ok, run_underlying_of hE, Conv.bytesToString, hld]
      rw [← Array.forIn_toList]
      have hf' : (forIn vs ByteArray.empty bstep).run P w = .ok ⟨bs.toArray⟩ w := by
        rw [hf]
        congr 2
        apply Array.ext'
        simp [ByteArray.empty, ByteArray.emptyWithCapacity]
        rfl
      show (((Sem.run P (forIn vs ByteArray.empty bstep) w).andThen _).andThen _) = _
      rw [hf']
      rfl
    · simp at he
  · simp at he

/-- A builtin's call. -/
theorem builtin_did {c : Call} {b : Builtin} (ho : o.op = .call c) (hc : c.callee = .builtin b) {av : AVal} {h' : AHeap}
    (hr : ∃ v w' β', (builtin b c.argTypes o.type (c.args.map fun | .const _ => true | _ => false) (c.args.map a.eval)).run P w = .ok (.value v) w' ∧ vrel h' β' av v ∧ Rel h' β' w' ∧ Ext h β w h' β' w') : Did P o a.eval h β w av h' := by
  have _ := G.g
  obtain ⟨v, w', β', hr, hv, R', X⟩ := hr
  refine .val (v := v) ?_ hv R' X
  unfold execOp; rw [ho]
  simp only [resolve, hc, Sem.run_bind, Sem.run_pure, Result.andThen_ok, invoke]
  exact hr

 omit G in
theorem arr1 {α : Type} {x : Array α} {a : α} (h : x.toList = [a]) : x = #[a] := by apply Array.ext'; simpa using h
 omit G in
theorem arr2 {α : Type} {x : Array α} {a b : α} (h : x.toList = [a, b]) : x = #[a, b] := by apply Array.ext'; simpa using h

theorem sim_lenS {t E : TypeId} {x : Operand} {ax : AOpd} {c : Call} (ho : o.op = .call c) (hc : c.callee = .builtin .len) (h1 : c.args.toList = [x]) (h2 : c.argTypes.toList = [t]) (hd : P.underlying t = some (.slice E)) (hx : cOpd P x = some ax)
    (he : aop e h (.lenS ax) = some (av, h')) : Did P o a.eval h β w av h' := by
  have rx := opd_vrel G hx
  refine builtin_did G ho hc ?_
  rw [arr1 h1, arr1 h2]
  simp only [aop, opMov, opPick, opAlloc, opBox, opBuild, opBuildSlice, opLoad, opStore, opNilCheck, opBin, opEql, opUn, opConv, opB2s, opMkIface, opMkFn, opMkMap, opMkSlice, opSlice, opFieldAddr, opField, opIdxS, opIdxA, opIndex, opIndexStr, opLookup, opMapUpd, opAssertT, opExtract, opLenS, opLenT, opLenM, opMin, opMax, opAppend, opCopy, opDelete] at he
  split at he
  · rename_i hh
    rw [hh] at rx; simp only [vrel] at rx
    simp only [Option.some.injEq, Prod.mk.injEq] at he
    obtain ⟨rfl, rfl⟩ := he
    exact ⟨.int .i64 0, w, β, by simp [builtin, Builtin.len_, run_underlying_of hd, rx, goInt], by simp [vrel], G.rel, Ext.refl _ _ _⟩
  · rename_i i1 i2 i3 len i5 hh
    rw [hh] at rx; simp only [vrel] at rx
    obtain ⟨ad, cap, ev, _⟩ := rx
    simp only [Option.some.injEq, Prod.mk.injEq] at he
    obtain ⟨rfl, rfl⟩ := he
    exact ⟨.int .i64 len, w, β, by simp [builtin, Builtin.len_, run_underlying_of hd, ev, goInt], by simp [vrel], G.rel, Ext.refl _ _ _⟩
  · simp at he

theorem sim_lenT {t : TypeId} {x : Operand} {ax : AOpd} {c : Call} (ho : o.op = .call c) (hc : c.callee = .builtin .len) (h1 : c.args.toList = [x]) (h2 : c.argTypes.toList = [t]) (hd : P.underlying t = some .string) (hx : cOpd P x = some ax)
    (he : aop e h (.lenT ax) = some (av, h')) : Did P o a.eval h β w av h' := by
  have rx := opd_vrel G hx
  refine builtin_did G ho hc ?_
  rw [arr1 h1, arr1 h2]
  simp only [aop, opMov, opPick, opAlloc, opBox, opBuild, opBuildSlice, opLoad, opStore, opNilCheck, opBin, opEql, opUn, opConv, opB2s, opMkIface, opMkFn, opMkMap, opMkSlice, opSlice, opFieldAddr, opField, opIdxS, opIdxA, opIndex, opIndexStr, opLookup, opMapUpd, opAssertT, opExtract, opLenS, opLenT, opLenM, opMin, opMax, opAppend, opCopy, opDelete] at he
  split at he
  · rename_i s hh
    rw [hh] at rx; simp only [vrel] at rx
    simp only [Option.some.injEq, Prod.mk.injEq] at he
    obtain ⟨rfl, rfl⟩ := he
    exact ⟨.int .i64 s.size, w, β, by simp [builtin, Builtin.len_, run_underlying_of hd, rx, goInt], by simp [vrel], G.rel, Ext.refl _ _ _⟩
  · simp at he

theorem map_at {id : Nat} {es : List (AVal × AVal)} (hid : id < h.n) (hg : h.get id = .map es) : ∃ fs clock, w.heap[(β id).b]? = some (.map fs clock) ∧ erel h β es fs.toList ∧ h.gen id = 0 := by
  have := G.rel.obj id hid
  rw [hg] at this
  obtain ⟨fs, k, h1, h2⟩ := this
  exact ⟨fs, k, h1, h2, by unfold AHeap.gen; rw [hg]⟩

theorem sim_lenM {t k v : TypeId} {x : Operand} {ax : AOpd} {c : Call} (ho : o.op = .call c) (hc : c.callee = .builtin .len) (h1 : c.args.toList = [x]) (h2 : c.argTypes.toList = [t]) (hd : P.underlying t = some (.map k v)) (hx : cOpd P x = some ax)
    (he : aop e h (.lenM ax) = some (av, h')) : Did P o a.eval h β w av h' := by
  have rx := opd_vrel G hx
  refine builtin_did G ho hc ?_
  rw [arr1 h1, arr1 h2]
  simp only [aop, opMov, opPick, opAlloc, opBox, opBuild, opBuildSlice, opLoad, opStore, opNilCheck, opBin, opEql, opUn, opConv, opB2s, opMkIface, opMkFn, opMkMap, opMkSlice, opSlice, opFieldAddr, opField, opIdxS, opIdxA, opIndex, opIndexStr, opLookup, opMapUpd, opAssertT, opExtract, opLenS, opLenT, opLenM, opMin, opMax, opAppend, opCopy, opDelete] at he
  split at he
  · rename_i hh
    rw [hh] at rx; simp only [vrel] at rx
    simp only [Option.some.injEq, Prod.mk.injEq] at he
    obtain ⟨rfl, rfl⟩ := he
    exact ⟨.int .i64 0, w, β, by simp [builtin, Builtin.len_, run_underlying_of hd, rx, goInt], by simp [vrel], G.rel, Ext.refl _ _ _⟩
  · rename_i id hh
    rw [hh] at rx; simp only [vrel] at rx
    obtain ⟨b, ev, hid, hb⟩ := rx
    split at he
    · rename_i es hg
      simp only [Option.some.injEq, Prod.mk.injEq] at he
      obtain ⟨rfl, rfl⟩ := he
      obtain ⟨fs, clock, hw, hrel, h0⟩ := map_at G hid hg
      have hl := vrels_length hrel.1
      simp at hl
      rw [hb h0] at ev
      refine ⟨.int .i64 es.length, w, β, ?_, by simp [vrel], G.rel, Ext.refl _ _ _⟩
      simp [builtin, Builtin.len_, run_underlying_of hd, ev, goInt, getObj, Sem.run, hw, hl]
    · simp at he
  · simp at he

theorem sim_min {x y : Operand} {ax ay : AOpd} {c : Call} (ho : o.op = .call c) (hc : c.callee = .builtin .min) (h1 : c.args.toList = [x, y]) (hx : cOpd P x = some ax) (hy : cOpd P y = some ay)
    (he : aop e h (.min ax ay) = some (av, h')) : Did P o a.eval h β w av h' := by
  have rx := opd_vrel G hx
  have ry := opd_vrel G hy
  refine builtin_did G ho hc ?_
  rw [arr2 h1]
  simp only [aop, opMov, opPick, opAlloc, opBox, opBuild, opBuildSlice, opLoad, opStore, opNilCheck, opBin, opEql, opUn, opConv, opB2s, opMkIface, opMkFn, opMkMap, opMkSlice, opSlice, opFieldAddr, opField, opIdxS, opIdxA, opIndex, opIndexStr, opLookup, opMapUpd, opAssertT, opExtract, opLenS, opLenT, opLenM, opMin, opMax, opAppend, opCopy, opDelete] at he
  split at he
  · rename_i k p k' q hh1 hh2
    rw [hh1] at rx; rw [hh2] at ry
    simp only [vrel] at rx ry
    split at he
    · rename_i hk
      simp only [Option.some.injEq, Prod.mk.injEq] at he
      obtain ⟨rfl, rfl⟩ := he
      exact ⟨.int k (if q < p then q else p), w, β, by simp [builtin, Builtin.min_, Builtin.min2, rx, ry], by simp [vrel], G.rel, Ext.refl _ _ _⟩
    · simp at he
  · simp at he

theorem sim_max {x y : Operand} {ax ay : AOpd} {c : Call} (ho : o.op = .call c) (hc : c.callee = .builtin .max) (h1 : c.args.toList = [x, y]) (hx : cOpd P x = some ax) (hy : cOpd P y = some ay)
    (he : aop e h (.max ax ay) = some (av, h')) : Did P o a.eval h β w av h' := by
  have rx := opd_vrel G hx
  have ry := opd_vrel G hy
  refine builtin_did G ho hc ?_
  rw [arr2 h1]
  simp only [aop, opMov, opPick, opAlloc, opBox, opBuild, opBuildSlice, opLoad, opStore, opNilCheck, opBin, opEql, opUn, opConv, opB2s, opMkIface, opMkFn, opMkMap, opMkSlice, opSlice, opFieldAddr, opField, opIdxS, opIdxA, opIndex, opIndexStr, opLookup, opMapUpd, opAssertT, opExtract, opLenS, opLenT, opLenM, opMin, opMax, opAppend, opCopy, opDelete] at he
  split at he
  · rename_i k p k' q hh1 hh2
    rw [hh1] at rx; rw [hh2] at ry
    simp only [vrel] at rx ry
    split at he
    · rename_i hk
      simp only [Option.some.injEq, Prod.mk.injEq] at he
      obtain ⟨rfl, rfl⟩ := he
      exact ⟨.int k (if p < q then q else p), w, β, by simp [builtin, Builtin.max_, Builtin.max2, rx, ry], by simp [vrel], G.rel, Ext.refl _ _ _⟩
    · simp at he
  · simp at he

theorem sim_append {s t E : TypeId} {sz b : Nat} {z : List AVal} {d : TypeDesc} {x y : Operand} {ax ay : AOpd} {c : Call} (ho : o.op = .call c) (hc : c.callee = .builtin .append) (h1 : c.args.toList = [x, y]) (h2 : c.argTypes.toList = [s, t])
    (hE : elemT P s = some E) (hi : eInfo P E = some (sz, b, z)) (hd : P.underlying t = some d) (hdk : ∀ k, d ≠ .int k) (hx : cOpd P x = some ax) (hy : cOpd P y = some ay)
    (he : aop e h (.append sz b ax ay) = some (av, h')) : Did P o a.eval h β w av h' := by
  obtain ⟨zv, hI, _⟩ := eInfo_of (h := h) (β := β) G hi
  simp only [aop, opMov, opPick, opAlloc, opBox, opBuild, opBuildSlice, opLoad, opStore, opNilCheck, opBin, opEql, opUn, opConv, opB2s, opMkIface, opMkFn, opMkMap, opMkSlice, opSlice, opFieldAddr, opField, opIdxS, opIdxA, opIndex, opIndexStr, opLookup, opMapUpd, opAssertT, opExtract, opLenS, opLenT, opLenM, opMin, opMax, opAppend, opCopy, opDelete] at he
  obtain ⟨v, w', β', hr, R', X, hv⟩ := app_run (P := P) G.rel (elemT_of hE) hd hdk hI he (opd_vrel G hx) (opd_vrel G hy) o.type
  refine builtin_did G ho hc ⟨v, w', β', ?_, hv, R', X⟩
  rw [arr2 h1, arr2 h2]
  simp only [builtin, List.map_toArray, List.map_cons, List.map_nil, Sem.run_bind, hr, Result.andThen_ok, Sem.run_pure]

theorem sim_copy {s t E : TypeId} {sz : Nat} {x y : Operand} {ax ay : AOpd} {c : Call} (ho : o.op = .call c) (hc : c.callee = .builtin .copy) (h1 : c.args.toList = [x, y]) (h2 : c.argTypes.toList = [s, t])
    (hE : elemT P s = some E) (hs : sizeT P E = some (sz + 1)) (hx : cOpd P x = some ax) (hy : cOpd P y = some ay)
    (he : aop e h (.copy (sz + 1) ax ay) = some (av, h')) : Did P o a.eval h β w av h' := by
  have rx := opd_vrel G hx
  have ry := opd_vrel G hy
  simp only [sizeT, Option.map_eq_some_iff] at hs
  obtain ⟨ti, hti, hsz⟩ := hs
  refine builtin_did G ho hc ?_
  rw [arr2 h1, arr2 h2]
  simp only [aop, opMov, opPick, opAlloc, opBox, opBuild, opBuildSlice, opLoad, opStore, opNilCheck, opBin, opEql, opUn, opConv, opB2s, opMkIface, opMkFn, opMkMap, opMkSlice, opSlice, opFieldAddr, opField, opIdxS, opIdxA, opIndex, opIndexStr, opLookup, opMapUpd, opAssertT, opExtract, opLenS, opLenT, opLenM, opMin, opMax, opAppend, opCopy, opDelete] at he
  split at he
  · rename_i hh
    rw [hh] at rx; simp only [vrel] at rx
    simp only [Option.map_eq_some_iff, Prod.mk.injEq] at he
    obtain ⟨⟨m, ys⟩, hel, rfl, rfl⟩ := he
    obtain ⟨hlen, hyl, xs, hxs, hfirst⟩ := elems_run (P := P) G.rel hel ry
    have hf := hfirst 0 (Nat.zero_le _)
    simp only [Nat.zero_mul, List.take_zero] at hf
    refine ⟨.int .i64 0, w, β, ?_, by simp [vrel], G.rel, Ext.refl _ _ _⟩
    have hm : Nat.min m 0 = 0 := Nat.min_zero m
    simp [builtin, Builtin.copy_, run_underlying_of (elemT_of hE), rx, hlen, run_sizeOf_of hti, hsz, hm, hf, goInt]
  · rename_i id g off len es hh
    split at he
    · rename_i hcc
      obtain ⟨rfl, hid⟩ := hcc
      simp only [Option.bind_eq_some_iff, Option.map_eq_some_iff, Prod.mk.injEq] at he
      obtain ⟨⟨m, ys⟩, hel, h2', hw, rfl, rfl⟩ := he
      obtain ⟨hlen, hyl, xs, hxs, hfirst⟩ := elems_run (P := P) G.rel hel ry
      have hf := hfirst (min m len) (Nat.min_le_left _ _)
      obtain ⟨hg, w', hst, R', X⟩ := write_at (P := P) G.rel hid hw (vrels_take (min m len * (sz + 1)) hxs)
      rw [hh] at rx; simp only [vrel] at rx
      obtain ⟨ad, cap, ev, hs1, hs2, hs3⟩ := rx
      obtain ⟨q1, q2, q3⟩ := hs3 hg
      by_cases hl0 : cap = 0
      · -- nothing to write
        have hmm : min m len = 0 := by omega
        have hw2 : w' = w := by
          have : xs.take (min m len * (sz + 1)) = [] := by rw [hmm]; simp
          rw [this] at hst
          simp [storeCells] at hst
          exact hst.symm
        subst hw2
        refine ⟨.int .i64 (min m len : Nat), w', β, ?_, by simp [vrel], R', X⟩
        have hmn : Nat.min m len = 0 := hmm
        rw [hmm] at hf
        simp only [Nat.zero_mul, List.take_zero] at hf
        simp [builtin, Builtin.copy_, run_underlying_of (elemT_of hE), ev, hlen, run_sizeOf_of hti, hsz, hmn, hmm, hf, goInt, storeCells]
      · have ha := q3 (by omega)
        subst ha
        refine ⟨.int .i64 (min m len : Nat), w', β, ?_, by simp [vrel], R', X⟩
        have hmn : Nat.min m len = min m len := rfl
        simp only [builtin, Builtin.copy_, List.map_toArray, List.map_cons, List.map_nil, List.getElem?_toArray, List.getElem?_cons_zero, List.getElem?_cons_succ, Sem.run_bind, run_underlying_of (elemT_of hE), ev, hlen, run_sizeOf_of hti, hsz, hmn, hf, Result.andThen_ok, hst, goInt, Sem.run_pure]
    · simp at he
  · simp at he

theorem find_run {t : TypeId} {kk : LK} (hk : mapK P t = some kk) {k : AVal} {kv : Value} (rk : vrel h β k kv) {es : List (AVal × AVal)} {fs : Array MapEntry} {r : Option (Nat × AVal)} (hr : erel h β es fs.toList) (hf : findK kk k es = some r) :
    ∃ kt el, P.underlying t = some (.map kt el) ∧ (∀ em, (Instr.checkKey em 10000 kt kv).run P w = .ok () w) ∧
      ((r = none ∧ (Instr.findKey kt kv fs.toList).run P w = .ok none w) ∨ ∃ j av v key, r = some (j, av) ∧ (Instr.findKey kt kv fs.toList).run P w = .ok (some (j, v)) w ∧ vrel h β av v ∧ es[j]? = some (key, av) ∧ litEq kk k key = some true) := by
  have _ := G.g
  obtain ⟨kt, el, d, h1, h2, h3⟩ := mapK_of hk
  refine ⟨kt, el, h1, fun em => checkKey_run h2 (by rcases h3 with ⟨_, q, rfl⟩ | ⟨_, rfl⟩; exact .inl ⟨q, rfl⟩; exact .inr rfl) em 9999 kv, ?_⟩
  rcases findNow_run h3 rk 0 hr hf with ⟨rfl, e⟩ | ⟨j, av, v, key, rfl, e, hv, hj, hl⟩
  · exact .inl ⟨rfl, by simp [Instr.findKey, run_underlying_of h2, e]⟩
  · exact .inr ⟨j, av, v, key, rfl, by simp [Instr.findKey, run_underlying_of h2, e], hv, hj, hl⟩

theorem run_getObj_map {r : Nat} {fs : Array MapEntry} {clock : Nat} (hw : w.heap[r]? = some (.map fs clock)) : (getObj r).run P w = .ok (.map fs clock) w := by
  have _ := G.g
  simp [getObj, Sem.run, hw]
theorem run_setObj_map {r : Nat} {fs : Array MapEntry} {clock : Nat} (x : Obj) (hw : w.heap[r]? = some (.map fs clock)) : (setObj r x).run P w = .ok () { w with heap := w.heap.setIfInBounds r x } := by
  have _ := G.g
  simp [setObj, Sem.run, hw]

theorem sim_lookup {t kt0 el0 : TypeId} {kk : LK} {z : AVal} {ok : Bool} {m k : Operand} {am ak : AOpd} (ho : o.op = .lookup t m k ok) (ht : P.underlying t = some (.map kt0 el0)) (hk : mapK P t = some kk) (hz : zeroT P el0 = some z) (hm : cOpd P m = some am) (hkk : cOpd P k = some ak)
    (he : aop e h (.lookup kk z ok am ak) = some (av, h')) : Did P o a.eval h β w av h' := by
  have rm := opd_vrel G hm
  have rk := opd_vrel G hkk
  simp only [zeroT, Option.bind_eq_some_iff] at hz
  obtain ⟨ti, hti, zv, hzv, hz⟩ := hz
  have hzr := (ofZero_vrel hz h β).1
  have out : ∀ (v : Value) (v' : AVal) (b : Bool), vrel h β v' v → vrel h β (if ok then .tup [v', .bool b] else v') (if ok then .tuple #[v, .bool b] else v) := by
    intro v v' b hv
    cases ok
    · exact hv
    · simp only [if_true, vrel]; exact ⟨_, rfl, by simp only [vrels]; exact ⟨_, _, rfl, hv, _, _, rfl, by simp [vrel], rfl⟩⟩
  simp only [aop, opMov, opPick, opAlloc, opBox, opBuild, opBuildSlice, opLoad, opStore, opNilCheck, opBin, opEql, opUn, opConv, opB2s, opMkIface, opMkFn, opMkMap, opMkSlice, opSlice, opFieldAddr, opField, opIdxS, opIdxA, opIndex, opIndexStr, opLookup, opMapUpd, opAssertT, opExtract, opLenS, opLenT, opLenM, opMin, opMax, opAppend, opCopy, opDelete] at he
  split at he
  · rename_i hh
    rw [hh] at rm; simp only [vrel] at rm
    simp only [Option.some.injEq, Prod.mk.injEq] at he
    obtain ⟨rfl, rfl⟩ := he
    obtain ⟨kt, el, d, h1, h2, h3⟩ := mapK_of hk
    rw [ht] at h1
    simp only [Option.some.injEq, TypeDesc.map.injEq] at h1
    obtain ⟨rfl, rfl⟩ := h1
    have hck := checkKey_run (P := P) (w := w) h2 (by rcases h3 with ⟨_, q, rfl⟩ | ⟨_, rfl⟩; exact .inl ⟨q, rfl⟩; exact .inr rfl) true 9999 (a.eval k)
    refine .pure G.rel (v := if ok then .tuple #[zv, .bool false] else zv) ?_ (out _ _ _ hzr)
    unfold execOp; rw [ho]
    simp only [Instr.lookup, Sem.run_bind, run_underlying_of ht, Result.andThen_ok, rm, Sem.run_pure, List.isEmpty_toArray, List.isEmpty_nil, hck, Instr.findKey, run_underlying_of h2, Instr.findNow, run_zeroValue_of hti hzv]
  · rename_i id hh
    rw [hh] at rm; simp only [vrel] at rm
    obtain ⟨b, ev, hid, hb⟩ := rm
    split at he
    · rename_i es hg
      simp only [Option.bind_eq_some_iff] at he
      obtain ⟨r, hf, he⟩ := he
      obtain ⟨fs, clock, hw, hrel, h0⟩ := map_at G hid hg
      obtain ⟨kt, el, h1, hck, hfr⟩ := find_run G hk rk hrel hf
      rw [ht] at h1
      simp only [Option.some.injEq, TypeDesc.map.injEq] at h1
      obtain ⟨rfl, rfl⟩ := h1
      rw [hb h0] at ev
      rcases hfr with ⟨rfl, e1⟩ | ⟨j, av', v, key, rfl, e1, hv, hj, hl⟩
      · simp only [Option.some.injEq, Prod.mk.injEq] at he
        obtain ⟨rfl, rfl⟩ := he
        refine .pure G.rel (v := if ok then .tuple #[zv, .bool false] else zv) ?_ (out _ _ _ hzr)
        unfold execOp; rw [ho]
        simp only [Instr.lookup, Sem.run_bind, run_underlying_of ht, Result.andThen_ok, ev, run_getObj_map G hw, Sem.run_pure, hck, e1, run_zeroValue_of hti hzv]
      · simp only [Option.some.injEq, Prod.mk.injEq] at he
        obtain ⟨rfl, rfl⟩ := he
        refine .pure G.rel (v := if ok then .tuple #[v, .bool true] else v) ?_ (out _ _ _ hv)
        unfold execOp; rw [ho]
        simp only [Instr.lookup, Sem.run_bind, run_underlying_of ht, Result.andThen_ok, ev, run_getObj_map G hw, Sem.run_pure, hck, e1]
    · simp at he
  · simp at he

theorem map_upd {id : Nat} {es es' : List (AVal × AVal)} {fs fs' : Array MapEntry} {clock clock' : Nat} (hid : id < h.n) (hg : h.get id = .map es) (hw : w.heap[(β id).b]? = some (.map fs clock)) (hr : erel h β es' fs'.toList) :
    Rel (h.set id (.map es')) β { w with heap := w.heap.setIfInBounds (β id).b (.map fs' clock') } ∧ Ext h β w (h.set id (.map es')) β { w with heap := w.heap.setIfInBounds (β id).b (.map fs' clock') } := by
  have hlt : (β id).b < w.heap.size := (Array.getElem?_eq_some_iff.1 hw).1
  have hu := Rel.upd (w' := { w with heap := w.heap.setIfInBounds (β id).b (.map fs' clock') }) G.rel hid (by rw [hg]; rfl) (o := .map es') (l := β id) (.inl rfl)
    (by
      have e1 : h.gen id = 0 := by unfold AHeap.gen; rw [hg]
      have e2 : (h.set id (.map es')).gen id = 0 := by unfold AHeap.gen; rw [AHeap.get_set_same]
      rw [e1, e2]; exact ⟨Nat.le_refl _, fun _ => rfl⟩)
    (by simp) (fun b _ hne => by show (w.heap.setIfInBounds _ _)[b]? = _; rw [Array.getElem?_setIfInBounds, if_neg (Ne.symm hne)]) rfl rfl (frozen_setMap w hw)
    (fun hx => ⟨fs', clock', by show (w.heap.setIfInBounds _ _)[(β id).b]? = _; rw [Array.getElem?_setIfInBounds, if_pos rfl, if_pos hlt], hr.mono hx⟩)
  rwa [updP_self] at hu

 omit G in
theorem erel_modify {es : List (AVal × AVal)} {fs : List MapEntry} (hr : erel h β es fs) {v : AVal} {vv : Value} (rv : vrel h β v vv) {kv : Value} : ∀ (j : Nat) {key : AVal} {old : AVal}, es[j]? = some (key, old) → (∀ f, fs[j]? = some f → vrel h β key kv) →
    erel h β (es.modify j fun p => (p.1, v)) (fs.modify j fun f => { f with key := kv, val := vv }) := by
  intro j
  induction j generalizing es fs with
  | zero =>
    intro key old he hf
    cases es with
    | nil => simp at he
    | cons p es =>
      simp at he; subst he
      obtain ⟨h1, h2⟩ := hr
      simp only [List.map_cons] at h1 h2
      cases fs with
      | nil => simp [vrels] at h1
      | cons f fs =>
        obtain ⟨r1, r2⟩ := vrels_cons_cons.1 h1
        obtain ⟨s1, s2⟩ := vrels_cons_cons.1 h2
        exact ⟨vrels_cons_cons.2 ⟨hf f rfl, r2⟩, vrels_cons_cons.2 ⟨rv, s2⟩⟩
  | succ j ih =>
    intro key old he hf
    cases es with
    | nil => simp at he
    | cons p es =>
      obtain ⟨h1, h2⟩ := hr
      simp only [List.map_cons] at h1 h2
      cases fs with
      | nil => simp [vrels] at h1
      | cons f fs =>
        obtain ⟨r1, r2⟩ := vrels_cons_cons.1 h1
        obtain ⟨s1, s2⟩ := vrels_cons_cons.1 h2
        obtain ⟨q1, q2⟩ := ih ⟨r2, s2⟩ (by simpa using he) (fun f' hf' => hf f' (by simpa using hf'))
        exact ⟨vrels_cons_cons.2 ⟨r1, q1⟩, vrels_cons_cons.2 ⟨s1, q2⟩⟩

 omit G in
theorem erel_erase {es : List (AVal × AVal)} {fs : List MapEntry} (hr : erel h β es fs) : ∀ (j : Nat), erel h β (es.eraseIdx j) (fs.eraseIdx j) := by
  intro j
  induction j generalizing es fs with
  | zero =>
    obtain ⟨h1, h2⟩ := hr
    cases es with
    | nil => simp [vrels] at h1; subst h1; exact ⟨by simp [vrels], by simp [vrels]⟩
    | cons p es =>
      simp only [List.map_cons] at h1 h2
      cases fs with
      | nil => simp [vrels] at h1
      | cons f fs => exact ⟨(vrels_cons_cons.1 h1).2, (vrels_cons_cons.1 h2).2⟩
  | succ j ih =>
    obtain ⟨h1, h2⟩ := hr
    cases es with
    | nil => simp [vrels] at h1; subst h1; exact ⟨by simp [vrels], by simp [vrels]⟩
    | cons p es =>
      simp only [List.map_cons] at h1 h2
      cases fs with
      | nil => simp [vrels] at h1
      | cons f fs =>
        obtain ⟨r1, r2⟩ := vrels_cons_cons.1 h1
        obtain ⟨s1, s2⟩ := vrels_cons_cons.1 h2
        obtain ⟨q1, q2⟩ := ih ⟨r2, s2⟩
        exact ⟨vrels_cons_cons.2 ⟨r1, q1⟩, vrels_cons_cons.2 ⟨s1, q2⟩⟩

 omit G in
theorem lit_same {kk : LK} {x y : AVal} (hkk : kk = .int ∨ kk = .str) (e : litEq kk x y = some true) {xv yv : Value} (rx : vrel h β x xv) (ry : vrel h β y yv) : Instr.sameBits 10000 yv xv = true ∧ vrel h β y xv := by
  rcases hkk with rfl | rfl
  · cases x <;> cases y <;> simp [litEq] at e
    simp only [vrel] at rx ry
    obtain ⟨rfl, rfl⟩ := e
    subst rx; subst ry
    exact ⟨by simp [Instr.sameBits], by simp [vrel]⟩
  · cases x <;> cases y <;> simp [litEq] at e
    simp only [vrel] at rx ry
    rename_i p q
    have : p = q := by cases p; cases q; simp at e; subst e; rfl
    subst this
    subst rx; subst ry
    exact ⟨by simp only [Instr.sameBits]; rw [beq_toListBytes]; simp, by simp [vrel]⟩

theorem sim_mapUpd {t : TypeId} {kk : LK} {m k v : Operand} {am ak avv : AOpd} (ho : o.op = .mapUpdate t m k v ∨ o.op = .insert t m k v) (hk : mapK P t = some kk) (hm : cOpd P m = some am) (hkk : cOpd P k = some ak) (hv : cOpd P v = some avv)
    (he : aop e h (.mapUpd kk am ak avv) = some (av, h')) : Did P o a.eval h β w av h' := by
  have rm := opd_vrel G hm
  have rk := opd_vrel G hkk
  have rv := opd_vrel G hv
  have hex : execOp a.eval o = (do Instr.mapUpdate t (a.eval m) (a.eval k) (a.eval v); pure .skip) := by
    unfold execOp; rcases ho with ho | ho <;> rw [ho]
  have hkind : kk = .int ∨ kk = .str := by
    obtain ⟨kt, el, d, h1, h2, h3⟩ := mapK_of hk
    rcases h3 with ⟨h, _⟩ | ⟨h, _⟩; exact .inl h; exact .inr h
  simp only [aop, opMov, opPick, opAlloc, opBox, opBuild, opBuildSlice, opLoad, opStore, opNilCheck, opBin, opEql, opUn, opConv, opB2s, opMkIface, opMkFn, opMkMap, opMkSlice, opSlice, opFieldAddr, opField, opIdxS, opIdxA, opIndex, opIndexStr, opLookup, opMapUpd, opAssertT, opExtract, opLenS, opLenT, opLenM, opMin, opMax, opAppend, opCopy, opDelete] at he
  split at he
  · rename_i id hh
    rw [hh] at rm; simp only [vrel] at rm
    obtain ⟨b, ev, hid, hb⟩ := rm
    split at he
    · rename_i es hg
      split at he
      · rename_i hcell
        simp only [Option.map_eq_some_iff] at he
        obtain ⟨r, hf, he⟩ := he
        obtain ⟨fs, clock, hw, hrel, h0⟩ := map_at G hid hg
        obtain ⟨kt, el, h1, hck, hfr⟩ := find_run G hk rk hrel hf
        rw [hb h0] at ev
        rcases hfr with ⟨rfl, e1⟩ | ⟨j, av', v', key, rfl, e1, hv', hj, hl⟩
        · simp only [Prod.mk.injEq] at he
          obtain ⟨rfl, rfl⟩ := he
          obtain ⟨R', X⟩ := map_upd G (es' := es ++ [(opd e ak, opd e avv)]) (fs' := fs.push { key := a.eval k, val := a.eval v, born := clock }) (clock' := clock + 1) hid hg hw (by
            simp only [erel, List.map_append, Array.toList_push, List.map_cons, List.map_nil]
            exact ⟨vrels_append hrel.1 (vrels_cons_cons.2 ⟨rk, by simp [vrels]⟩), vrels_append hrel.2 (vrels_cons_cons.2 ⟨rv, by simp [vrels]⟩)⟩)
          refine ⟨_, β, .inr ⟨?_, rfl⟩, R', X⟩
          rw [hex]
          simp only [Instr.mapUpdate, Sem.run_bind, run_underlying_of h1, Result.andThen_ok, ev, run_getObj_map G hw, hck, e1, run_setObj_map G _ hw, Sem.run_pure]
        · simp only [Prod.mk.injEq] at he
          obtain ⟨rfl, rfl⟩ := he
          have hlen : fs.toList.length = es.length := by have := vrels_length hrel.1; simpa using this
          have hjl : j < es.length := (List.getElem?_eq_some_iff.1 hj).1
          obtain ⟨f, hfj⟩ : ∃ f, fs.toList[j]? = some f := ⟨_, List.getElem?_eq_getElem (by omega)⟩
          have hkey : vrel h β key f.key := by
            have := vrels_get hrel.1 (i := j) (a := key) (by simp [hj])
            obtain ⟨x, hx1, hx2⟩ := this
            simp [hfj] at hx1; subst hx1; exact hx2
          have hsame := lit_same hkind hl rk hkey
          obtain ⟨R', X⟩ := map_upd G (es' := es.modify j fun p => (p.1, opd e avv)) (fs' := fs.modify j fun f => { f with key := a.eval k, val := a.eval v }) (clock' := clock) hid hg hw (by
            rw [Array.toList_modify]
            exact erel_modify hrel rv j hj (fun f' hf' => hsame.2))
          refine ⟨_, β, .inr ⟨?_, rfl⟩, R', X⟩
          rw [hex]
          rw [Array.getElem?_toList] at hfj
          simp only [Instr.mapUpdate, Sem.run_bind, run_underlying_of h1, Result.andThen_ok, ev, run_getObj_map G hw, hck, e1, hfj, Option.map_some, Option.getD_some, Instr.keyThatStays, hsame.1, if_true, Sem.run_pure, run_setObj_map G _ hw]
      · simp at he
    · simp at he
  · simp at he

theorem sim_delete {t : TypeId} {ts : List TypeId} {kk : LK} {m k : Operand} {am ak : AOpd} {c : Call} (ho : o.op = .call c) (hc : c.callee = .builtin .delete) (h1 : c.args.toList = [m, k]) (h2 : c.argTypes.toList = t :: ts) (hk : mapK P t = some kk) (hm : cOpd P m = some am) (hkk : cOpd P k = some ak)
    (he : aop e h (.delete kk am ak) = some (av, h')) : Did P o a.eval h β w av h' := by
  have rm := opd_vrel G hm
  have rk := opd_vrel G hkk
  have h2' : c.argTypes[0]? = some t := by
    have : c.argTypes.toList[0]? = some t := by rw [h2]; rfl
    simpa using this
  refine builtin_did G ho hc ?_
  rw [arr2 h1]
  simp only [aop, opMov, opPick, opAlloc, opBox, opBuild, opBuildSlice, opLoad, opStore, opNilCheck, opBin, opEql, opUn, opConv, opB2s, opMkIface, opMkFn, opMkMap, opMkSlice, opSlice, opFieldAddr, opField, opIdxS, opIdxA, opIndex, opIndexStr, opLookup, opMapUpd, opAssertT, opExtract, opLenS, opLenT, opLenM, opMin, opMax, opAppend, opCopy, opDelete] at he
  split at he
  · rename_i id hh
    rw [hh] at rm; simp only [vrel] at rm
    obtain ⟨b, ev, hid, hb⟩ := rm
    split at he
    · rename_i es hg
      simp only [Option.map_eq_some_iff] at he
      obtain ⟨r, hf, he⟩ := he
      obtain ⟨fs, clock, hw, hrel, h0⟩ := map_at G hid hg
      obtain ⟨kt, el, hu, hck, hfr⟩ := find_run G hk rk hrel hf
      rw [hb h0] at ev
      rcases hfr with ⟨rfl, e1⟩ | ⟨j, av', v', key, rfl, e1, hv', hj, hl⟩
      · simp only [Prod.mk.injEq] at he
        obtain ⟨rfl, rfl⟩ := he
        obtain ⟨R', X⟩ := map_upd G (es' := es) (fs' := fs) (clock' := clock) hid hg hw hrel
        have hset : h.set id (.map es) = h.set id (.map es) := rfl
        refine ⟨.tuple #[], { w with heap := w.heap.setIfInBounds (β id).b (.map fs clock) }, β, ?_, by simp [vrel], ?_, ?_⟩
        · simp only [builtin, Builtin.delete_, List.map_toArray, List.map_cons, List.map_nil, List.getElem?_toArray, List.getElem?_cons_zero, List.getElem?_cons_succ, h2', Sem.run_bind, run_underlying_of hu, Result.andThen_ok, ev, run_getObj_map G hw, hck, e1, run_setObj_map G _ hw, Sem.run_pure]
        · refine (Rel.same (w' := { w with heap := w.heap.setIfInBounds (β id).b (.map fs clock) }) G.rel ?_ rfl rfl).1
          show w.heap.setIfInBounds _ _ = w.heap
          apply Array.ext_getElem?
          intro i
          rw [Array.getElem?_setIfInBounds]
          split
          · rename_i hi; subst hi
            rw [hw]; simp [(Array.getElem?_eq_some_iff.1 hw).1]
          · rfl
        · refine (Rel.same (w' := { w with heap := w.heap.setIfInBounds (β id).b (.map fs clock) }) G.rel ?_ rfl rfl).2
          show w.heap.setIfInBounds _ _ = w.heap
          apply Array.ext_getElem?
          intro i
          rw [Array.getElem?_setIfInBounds]
          split
          · rename_i hi; subst hi
            rw [hw]; simp [(Array.getElem?_eq_some_iff.1 hw).1]
          · rfl
      · simp only [Prod.mk.injEq] at he
        obtain ⟨rfl, rfl⟩ := he
        obtain ⟨R', X⟩ := map_upd G (es' := es.eraseIdx j) (fs' := fs.eraseIdxIfInBounds j) (clock' := clock) hid hg hw (by
          have : (fs.eraseIdxIfInBounds j).toList = fs.toList.eraseIdx j := by simp
          rw [this]; exact erel_erase hrel j)
        refine ⟨.tuple #[], _, β, ?_, by simp [vrel], R', X⟩
        simp only [builtin, Builtin.delete_, List.map_toArray, List.map_cons, List.map_nil, List.getElem?_toArray, List.getElem?_cons_zero, List.getElem?_cons_succ, h2', Sem.run_bind, run_underlying_of hu, Result.andThen_ok, ev, run_getObj_map G hw, hck, e1, run_setObj_map G _ hw, Sem.run_pure]
    · simp at he
  · simp at he

end
end Go.AM
