/-
  AM, part 10: the other operations.
-/
import Derived.Test.YtedomhceacongaaAmSim2
namespace Go.AM
set_option linter.unusedVariables false
set_option linter.unusedSimpArgs false

theorem mul_le_of_lt {n len s : Nat} (h : n < len) : n * s + s ≤ len * s := by
  have : (n + 1) * s ≤ len * s := Nat.mul_le_mul_right s h
  rw [Nat.add_mul] at this; omega

section
variable {P : Program} {h h' : AHeap} {β : Pl} {w : World} {e : Env} {a : Act} {o : Oper} {av : AVal} (G : Good P h β w e a.tmps)
 include G

theorem sim_bin {op : BinOp} {t u : TypeId} {x y : Operand} {ax ay : AOpd} (ho : o.op = .binOp op t x y u)
    (hx : cOpd P x = some ax) (hy : cOpd P y = some ay) (he : aop e h (.bin op ax ay) = some (av, h')) : Did P o a.eval h β w av h' := by
  simp only [aop, opMov, opPick, opAlloc, opBox, opBuild, opBuildSlice, opLoad, opStore, opNilCheck, opBin, opEql, opUn, opConv, opB2s, opMkIface, opMkFn, opMkMap, opMkSlice, opSlice, opFieldAddr, opField, opIdxS, opIdxA, opIndex, opIndexStr, opLookup, opMapUpd, opAssertT, opExtract, opLenS, opLenT, opLenM, opMin, opMax, opAppend, opCopy, opDelete] at he
  have rx := opd_vrel G hx
  have ry := opd_vrel G hy
  have key : ∀ (xa ya : Value), a.eval x = xa → a.eval y = ya → binOp op t xa ya = binOp op 0 xa ya → eqGuard op t x y xa ya = Pure.pure () →
      (ofSem (binOp op 0 xa ya)).map (fun v => (v, h)) = some (av, h') → Did P o a.eval h β w av h' := by
    intro xa ya e1 e2 e3 e4 e5
    simp only [Option.map_eq_some_iff, Prod.mk.injEq] at e5
    obtain ⟨v, hs, rfl, rfl⟩ := e5
    obtain ⟨v', hr, hv⟩ := ofSem_run (h := h) (β := β) (P := P) (w := w) hs
    refine .pure G.rel ?_ hv
    unfold execOp; rw [ho]
    simp only [Sem.run_bind, e1, e2, e3, e4, Sem.run_pure, hr, Result.andThen_ok]
  split at he
  · rename_i k p l q hh1 hh2
    rw [hh1] at rx; rw [hh2] at ry
    simp only [vrel] at rx ry
    refine key _ _ rx ry (by cases op <;> rfl) (by cases op <;> rfl) ?_
    simp only [Option.map_eq_some_iff] at he ⊢
    obtain ⟨v, hv, he⟩ := he
    exact ⟨v, ibin_sem hv, he⟩
  · rename_i p q hh1 hh2
    rw [hh1] at rx; rw [hh2] at ry
    simp only [vrel] at rx ry
    have key2 : ∀ (v : Value) (v' : AVal), vrel h β v' v → Op.stringOp op p q = Pure.pure v → some (v', h) = some (av, h') → Did P o a.eval h β w av h' := by
      intro v v' e1 e2 e3
      simp only [Option.some.injEq, Prod.mk.injEq] at e3
      obtain ⟨rfl, rfl⟩ := e3
      refine .pure G.rel ?_ e1
      unfold execOp; rw [ho]
      have e4 : eqGuard op t x y (.string p) (.string q) = Pure.pure () := by cases op <;> rfl
      have e5 : binOp op t (.string p) (.string q) = Op.stringOp op p q := by cases op <;> rfl
      simp only [Sem.run_bind, rx, ry, e4, e5, e2, Sem.run_pure, Result.andThen_ok]
    have ep : p.toList = p.data.toList := ByteArray.toList_eq p
    have eq : q.toList = q.data.toList := ByteArray.toList_eq q
    split at he
    · exact key2 (.bool (p.data.toList == q.data.toList)) _ (by simp [vrel]) (by simp only [Op.stringOp, ep, eq]) he
    · exact key2 (.bool (!(p.data.toList == q.data.toList))) _ (by simp [vrel]) (by simp only [Op.stringOp, ep, eq]) he
    · split at he
      · rename_i hsz
        refine key2 (.string (p ++ q)) _ ?_ ?_ he
        · simp only [vrel]
          congr 1
        · simp only [Op.stringOp]
          rw [if_neg (by have : IntKind.i64.max = 9223372036854775807 := by decide
                         omega)]
      · simp at he
    · exact key2 (.bool (Op.bytesLess p.data.toList q.data.toList)) _ (by simp [vrel]) (by simp only [Op.stringOp, ep, eq]) he
    · simp at he
  · rename_i k p l q hh1 hh2
    rw [hh1] at rx; rw [hh2] at ry
    simp only [vrel] at rx ry
    exact key _ _ rx ry (by cases op <;> rfl) (by cases op <;> rfl) he
  · simp at he

theorem sim_un {op : UnOp} {t : TypeId} {x : Operand} {ax : AOpd} (ho : o.op = .unOp op t x) (hx : cOpd P x = some ax) (he : aop e h (.un op ax) = some (av, h')) : Did P o a.eval h β w av h' := by
  simp only [aop, opMov, opPick, opAlloc, opBox, opBuild, opBuildSlice, opLoad, opStore, opNilCheck, opBin, opEql, opUn, opConv, opB2s, opMkIface, opMkFn, opMkMap, opMkSlice, opSlice, opFieldAddr, opField, opIdxS, opIdxA, opIndex, opIndexStr, opLookup, opMapUpd, opAssertT, opExtract, opLenS, opLenT, opLenM, opMin, opMax, opAppend, opCopy, opDelete, Option.bind_eq_some_iff, Option.map_eq_some_iff, Prod.mk.injEq] at he
  obtain ⟨xa, hxa, v, hs, rfl, rfl⟩ := he
  have rx := lit_vrel hxa (opd_vrel G hx)
  obtain ⟨v', hr, hv⟩ := ofSem_run (h := h) (β := β) (P := P) (w := w) hs
  refine .pure G.rel ?_ hv
  unfold execOp; rw [ho]
  simp only [Sem.run_bind, rx, hr, Result.andThen_ok, Sem.run_pure]

theorem sim_conv {s d : TypeId} {ks k : IntKind} {x : Operand} {ax : AOpd} (ho : o.op = .convert s d x) (hs : P.underlying s = some (.int ks)) (hd : P.underlying d = some (.int k)) (hx : cOpd P x = some ax)
    (he : aop e h (.conv k ax) = some (av, h')) : Did P o a.eval h β w av h' := by
  simp only [aop, opMov, opPick, opAlloc, opBox, opBuild, opBuildSlice, opLoad, opStore, opNilCheck, opBin, opEql, opUn, opConv, opB2s, opMkIface, opMkFn, opMkMap, opMkSlice, opSlice, opFieldAddr, opField, opIdxS, opIdxA, opIndex, opIndexStr, opLookup, opMapUpd, opAssertT, opExtract, opLenS, opLenT, opLenM, opMin, opMax, opAppend, opCopy, opDelete] at he
  have rx := opd_vrel G hx
  split at he
  · rename_i k' n hh
    have he : (ofSem (Conv.intToInt k n)).map (fun v => (v, h)) = some (av, h') := by rw [← he, wrapF_eq]; rfl
    simp only [Option.map_eq_some_iff, Prod.mk.injEq] at he
    obtain ⟨v, hsm, rfl, rfl⟩ := he
    rw [hh] at rx
    simp only [vrel] at rx
    obtain ⟨v', hr, hv⟩ := ofSem_run (h := h) (β := β) (P := P) (w := w) hsm
    refine .pure G.rel ?_ hv
    unfold execOp; rw [ho]
    simp only [convert, Sem.run_bind, rx, run_underlying_of hs, run_underlying_of hd, Result.andThen_ok, hr, Sem.run_pure]
  · simp at he

theorem sim_mkIface {t : TypeId} {d : TypeDesc} {x : Operand} {ax : AOpd} (ho : o.op = .makeInterface t x) (hd : P.underlying t = some d) (hi : ∀ ms, d ≠ .interface ms) (hx : cOpd P x = some ax)
    (he : aop e h (.mkIface t ax) = some (av, h')) : Did P o a.eval h β w av h' := by
  simp only [aop, opMov, opPick, opAlloc, opBox, opBuild, opBuildSlice, opLoad, opStore, opNilCheck, opBin, opEql, opUn, opConv, opB2s, opMkIface, opMkFn, opMkMap, opMkSlice, opSlice, opFieldAddr, opField, opIdxS, opIdxA, opIndex, opIndexStr, opLookup, opMapUpd, opAssertT, opExtract, opLenS, opLenT, opLenM, opMin, opMax, opAppend, opCopy, opDelete, Option.some.injEq, Prod.mk.injEq] at he
  obtain ⟨rfl, rfl⟩ := he
  refine .pure G.rel (v := .iface t (a.eval x)) ?_ (by simp only [vrel]; exact ⟨_, rfl, opd_vrel G hx⟩)
  unfold execOp; rw [ho]
  simp only [Instr.makeInterface, Sem.run_bind, run_underlying_of hd, Result.andThen_ok]
  cases d <;> first | exact absurd rfl (hi _) | rfl

theorem sim_mkFn {f : Fn} {x y : Array Operand} {ax ay : List AOpd} (ho : o.op = .makeFunc f x y) (hx : cOpds P x.toList = some ax) (hy : cOpds P y.toList = some ay)
    (he : aop e h (.mkFn f ax ay) = some (av, h')) : Did P o a.eval h β w av h' := by
  simp only [aop, opMov, opPick, opAlloc, opBox, opBuild, opBuildSlice, opLoad, opStore, opNilCheck, opBin, opEql, opUn, opConv, opB2s, opMkIface, opMkFn, opMkMap, opMkSlice, opSlice, opFieldAddr, opField, opIdxS, opIdxA, opIndex, opIndexStr, opLookup, opMapUpd, opAssertT, opExtract, opLenS, opLenT, opLenM, opMin, opMax, opAppend, opCopy, opDelete, Option.some.injEq, Prod.mk.injEq] at he
  obtain ⟨rfl, rfl⟩ := he
  refine .pure G.rel (v := .func f (x.map a.eval) (y.map a.eval)) ?_ (by simp only [vrel]; exact ⟨_, _, rfl, by rw [Array.toList_map]; exact opds_vrels G hx, by rw [Array.toList_map]; exact opds_vrels G hy⟩)
  unfold execOp; rw [ho]
  simp [Instr.makeFunc]

theorem sim_mkMap {t k v : TypeId} (ho : o.op = .makeMap t none) (ht : P.underlying t = some (.map k v)) (he : aop e h .mkMap = some (av, h')) : Did P o a.eval h β w av h' := by
  simp only [aop, opMov, opPick, opAlloc, opBox, opBuild, opBuildSlice, opLoad, opStore, opNilCheck, opBin, opEql, opUn, opConv, opB2s, opMkIface, opMkFn, opMkMap, opMkSlice, opSlice, opFieldAddr, opField, opIdxS, opIdxA, opIndex, opIndexStr, opLookup, opMapUpd, opAssertT, opExtract, opLenS, opLenT, opLenM, opMin, opMax, opAppend, opCopy, opDelete, Option.some.injEq, Prod.mk.injEq] at he
  obtain ⟨rfl, rfl⟩ := he
  obtain ⟨R', X⟩ := Rel.new (w' := w.alloc (.map #[] 0)) G.rel (o := .map []) (l := ⟨w.heap.size, 0, 0⟩) (fun _ => Nat.le_refl _) (by simp) (fun b hb => by show (w.heap.push _)[b]? = _; rw [Array.getElem?_push, if_neg (by omega)]) rfl rfl (frozen_alloc_map w _ _)
    (fun _ => ⟨#[], 0, by show (w.heap.push _)[w.heap.size]? = _; exact Array.getElem?_push_size, by simp [erel, vrels]⟩)
  refine .val (v := .map (some w.heap.size)) ?_ ?_ R' X
  · unfold execOp; rw [ho]
    simp only [Instr.makeMap, Option.map_none]
    first | rfl | (simp [run_underlying_of ht]; rfl)
  · simp only [vrel]
    exact ⟨_, rfl, by simp, fun _ => by rw [updP_same]⟩

theorem part_run {t : TypeId} {n : Option Nat} (hn : aggN P t = some n) {cs : List AVal} {vs : Array Value} (hr : vrels h β cs vs.toList) {off : Nat} {av : AVal}
    (he : partA n cs off = some av) : ∃ v, (part t vs off).run P w = .ok v w ∧ vrel h β av v := by
  have _ := G.g
  simp only [aggN, isAggT, Option.bind_eq_some_iff, Option.map_eq_some_iff] at hn
  obtain ⟨b, ⟨d, hd, hb⟩, hn⟩ := hn
  have hagg : (isAgg t).run P w = .ok b w := by
    unfold isAgg
    simp only [Sem.run_bind, run_underlying_of hd, Result.andThen_ok]
    subst hb
    cases d <;> rfl
  cases n with
  | none =>
    have hbf : b = false := by
      cases b
      · rfl
      · rw [if_pos rfl] at hn; simp only [Option.map_eq_some_iff] at hn; obtain ⟨_, _, h2⟩ := hn; cases h2
    subst hbf
    obtain ⟨v, hv, hrv⟩ := vrels_get hr he
    refine ⟨v, ?_, hrv⟩
    rw [Array.getElem?_toList] at hv
    simp [part, hagg, hv]
  | some n =>
    have hbt : b = true ∧ sizeT P t = some n := by
      cases b
      · simp at hn
      · rw [if_pos rfl] at hn; simp only [Option.map_eq_some_iff] at hn; obtain ⟨k, h1, h2⟩ := hn; cases h2; exact ⟨rfl, h1⟩
    obtain ⟨rfl, hsz⟩ := hbt
    simp only [sizeT, Option.map_eq_some_iff] at hsz
    obtain ⟨ti, hti, hsz⟩ := hsz
    simp only [partA] at he
    split at he
    · simp only [Option.some.injEq] at he
      subst he
      refine ⟨.agg (vs.extract off (off + n)), by simp [part, hagg, run_sizeOf_of hti, hsz], ?_⟩
      simp only [vrel]
      refine ⟨_, rfl, ?_⟩
      have : (vs.extract off (off + n)).toList = (vs.toList.drop off).take n := by
        simp [Array.toList_extract]
      rw [this]
      exact vrels_take n (vrels_drop off hr)
    · simp at he

theorem sim_field {t : TypeId} {x : Operand} {i : Nat} {f : Field} {n : Option Nat} {ax : AOpd} (ho : o.op = .field t x i) (hf : structField P t i = some f) (hn : aggN P f.type = some n) (hx : cOpd P x = some ax)
    (he : aop e h (.field f.offset n ax) = some (av, h')) : Did P o a.eval h β w av h' := by
  simp only [aop, opMov, opPick, opAlloc, opBox, opBuild, opBuildSlice, opLoad, opStore, opNilCheck, opBin, opEql, opUn, opConv, opB2s, opMkIface, opMkFn, opMkMap, opMkSlice, opSlice, opFieldAddr, opField, opIdxS, opIdxA, opIndex, opIndexStr, opLookup, opMapUpd, opAssertT, opExtract, opLenS, opLenT, opLenM, opMin, opMax, opAppend, opCopy, opDelete] at he
  have rx := opd_vrel G hx
  split at he
  · rename_i cs hh
    rw [hh] at rx
    simp only [vrel] at rx
    obtain ⟨vs, ev, hr⟩ := rx
    simp only [Option.map_eq_some_iff, Prod.mk.injEq] at he
    obtain ⟨v0, he', rfl, rfl⟩ := he
    obtain ⟨v, hv, hrv⟩ := part_run (w := w) G hn hr he'
    simp only [structField] at hf
    split at hf
    · rename_i fs hu
      refine .pure G.rel (v := v) ?_ hrv
      unfold execOp; rw [ho]
      simp [Instr.field, run_underlying_of hu, hf, ev, asAgg, hv]
    · simp at hf
  · simp at he

theorem sim_idxS {t E : TypeId} {s : Nat} {x y : Operand} {ax ay : AOpd} (ho : o.op = .indexAddr t x y) (ht : P.underlying t = some (.slice E)) (hs : sizeT P E = some (s + 1)) (hx : cOpd P x = some ax) (hy : cOpd P y = some ay)
    (he : aop e h (.idxS (s + 1) ax ay) = some (av, h')) : Did P o a.eval h β w av h' := by
  simp only [aop, opMov, opPick, opAlloc, opBox, opBuild, opBuildSlice, opLoad, opStore, opNilCheck, opBin, opEql, opUn, opConv, opB2s, opMkIface, opMkFn, opMkMap, opMkSlice, opSlice, opFieldAddr, opField, opIdxS, opIdxA, opIndex, opIndexStr, opLookup, opMapUpd, opAssertT, opExtract, opLenS, opLenT, opLenM, opMin, opMax, opAppend, opCopy, opDelete] at he
  have rx := opd_vrel G hx
  have ry := opd_vrel G hy
  split at he
  · rename_i id g off len es k n hh1 hh2
    split at he
    · rename_i hc
      obtain ⟨c1, c2, rfl, c4⟩ := hc
      simp only [Option.some.injEq, Prod.mk.injEq] at he
      obtain ⟨rfl, rfl⟩ := he
      rw [hh1] at rx
      rw [hh2] at ry
      simp only [vrel] at rx ry
      obtain ⟨ad, cap, ev, hs1, hs2, hs3⟩ := rx
      obtain ⟨h1, h2, h3⟩ := hs3 c4
      have ha := h3 (by omega)
      subst ha
      simp only [sizeT, Option.map_eq_some_iff] at hs
      obtain ⟨ti, hti, hsz⟩ := hs
      refine .pure G.rel (v := .pointer (some ((⟨(β id).b, (β id).o + off, none⟩ : Addr).add (n.toNat * (s + 1))))) ?_ ?_
      · unfold execOp; rw [ho]
        simp only [Instr.indexAt, Sem.run_bind, ev, ry, asIntOf, Sem.run_pure, Result.andThen_ok, run_underlying_of ht, c1, c2, and_self, if_true, run_sizeOf_of hti, hsz]
      · simp only [vrel]
        exact ⟨_, rfl, hs1, hs2, fun _ => by rw [addr_add, Nat.add_assoc]⟩
    · simp at he
  · simp at he

theorem sim_idxA {t E : TypeId} {s len : Nat} {x y : Operand} {ax ay : AOpd} (ho : o.op = .indexAddr t x y) (ht : P.underlying t = some (.array len E)) (hs : sizeT P E = some (s + 1)) (hx : cOpd P x = some ax) (hy : cOpd P y = some ay)
    (he : aop e h (.idxA (s + 1) len ax ay) = some (av, h')) : Did P o a.eval h β w av h' := by
  simp only [aop, opMov, opPick, opAlloc, opBox, opBuild, opBuildSlice, opLoad, opStore, opNilCheck, opBin, opEql, opUn, opConv, opB2s, opMkIface, opMkFn, opMkMap, opMkSlice, opSlice, opFieldAddr, opField, opIdxS, opIdxA, opIndex, opIndexStr, opLookup, opMapUpd, opAssertT, opExtract, opLenS, opLenT, opLenM, opMin, opMax, opAppend, opCopy, opDelete] at he
  have rx := opd_vrel G hx
  have ry := opd_vrel G hy
  split at he
  · rename_i id g off k n hh1 hh2
    split at he
    · rename_i hc
      obtain ⟨c1, c2⟩ := hc
      simp only [Option.some.injEq, Prod.mk.injEq] at he
      obtain ⟨rfl, rfl⟩ := he
      rw [hh1] at rx
      rw [hh2] at ry
      simp only [vrel] at rx ry
      obtain ⟨ad, ev, hs1, hs2, hs3⟩ := rx
      simp only [sizeT, Option.map_eq_some_iff] at hs
      obtain ⟨ti, hti, hsz⟩ := hs
      refine .pure G.rel (v := .pointer (some (ad.add (n.toNat * (s + 1))))) ?_ ?_
      · unfold execOp; rw [ho]
        simp only [Instr.indexAt, Sem.run_bind, ev, ry, asIntOf, Sem.run_pure, Result.andThen_ok, run_underlying_of ht, Instr.sureAddr, c1, c2, and_self, if_true, run_sizeOf_of hti, hsz]
      · simp only [vrel]
        exact ⟨_, rfl, hs1, hs2, fun eg => by rw [hs3 eg, addr_add, Nat.add_assoc]⟩
    · simp at he
  · simp at he

theorem sim_index {t E : TypeId} {s len : Nat} {m : Option Nat} {x y : Operand} {ax ay : AOpd} (ho : o.op = .index t x y) (ht : P.underlying t = some (.array len E)) (hs : sizeT P E = some s) (hm : aggN P E = some m) (hx : cOpd P x = some ax) (hy : cOpd P y = some ay)
    (he : aop e h (.index s len m ax ay) = some (av, h')) : Did P o a.eval h β w av h' := by
  simp only [aop, opMov, opPick, opAlloc, opBox, opBuild, opBuildSlice, opLoad, opStore, opNilCheck, opBin, opEql, opUn, opConv, opB2s, opMkIface, opMkFn, opMkMap, opMkSlice, opSlice, opFieldAddr, opField, opIdxS, opIdxA, opIndex, opIndexStr, opLookup, opMapUpd, opAssertT, opExtract, opLenS, opLenT, opLenM, opMin, opMax, opAppend, opCopy, opDelete] at he
  have rx := opd_vrel G hx
  have ry := opd_vrel G hy
  split at he
  · rename_i cs k n hh1 hh2
    split at he
    · rename_i hc
      obtain ⟨c1, c2⟩ := hc
      rw [hh1] at rx
      rw [hh2] at ry
      simp only [vrel] at rx ry
      obtain ⟨vs, ev, hr⟩ := rx
      simp only [Option.map_eq_some_iff, Prod.mk.injEq] at he
      obtain ⟨v0, he', rfl, rfl⟩ := he
      obtain ⟨v, hv, hrv⟩ := part_run (w := w) G hm hr he'
      simp only [sizeT, Option.map_eq_some_iff] at hs
      obtain ⟨ti, hti, hsz⟩ := hs
      refine .pure G.rel (v := v) ?_ hrv
      unfold execOp; rw [ho]
      simp only [Instr.index, Sem.run_bind, ev, ry, asIntOf, Sem.run_pure, Result.andThen_ok, run_underlying_of ht, c1, c2, and_self, if_true, run_sizeOf_of hti, hsz, hv]
    · simp at he
  · simp at he

theorem sim_indexStr {t : TypeId} {x y : Operand} {ax ay : AOpd} (ho : o.op = .index t x y) (ht : P.underlying t = some .string) (hx : cOpd P x = some ax) (hy : cOpd P y = some ay)
    (he : aop e h (.indexStr ax ay) = some (av, h')) : Did P o a.eval h β w av h' := by
  simp only [aop, opMov, opPick, opAlloc, opBox, opBuild, opBuildSlice, opLoad, opStore, opNilCheck, opBin, opEql, opUn, opConv, opB2s, opMkIface, opMkFn, opMkMap, opMkSlice, opSlice, opFieldAddr, opField, opIdxS, opIdxA, opIndex, opIndexStr, opLookup, opMapUpd, opAssertT, opExtract, opLenS, opLenT, opLenM, opMin, opMax, opAppend, opCopy, opDelete] at he
  have rx := opd_vrel G hx
  have ry := opd_vrel G hy
  split at he
  · rename_i s k n hh1 hh2
    split at he
    · rename_i c1
      rw [hh1] at rx
      rw [hh2] at ry
      simp only [vrel] at rx ry
      simp only [Option.map_eq_some_iff, Prod.mk.injEq] at he
      obtain ⟨b, hb, rfl, rfl⟩ := he
      refine .pure G.rel (v := .int .u8 b.toNat) ?_ (by simp [vrel])
      unfold execOp; rw [ho]
      simp only [Instr.index, Sem.run_bind, rx, ry, asIntOf, Sem.run_pure, Result.andThen_ok, run_underlying_of ht, c1, if_true, hb]
    · simp at he
  · simp at he

theorem sim_extract {x : Operand} {i : Nat} {ax : AOpd} (ho : o.op = .extract x i) (hx : cOpd P x = some ax) (he : aop e h (.extract ax i) = some (av, h')) : Did P o a.eval h β w av h' := by
  simp only [aop, opMov, opPick, opAlloc, opBox, opBuild, opBuildSlice, opLoad, opStore, opNilCheck, opBin, opEql, opUn, opConv, opB2s, opMkIface, opMkFn, opMkMap, opMkSlice, opSlice, opFieldAddr, opField, opIdxS, opIdxA, opIndex, opIndexStr, opLookup, opMapUpd, opAssertT, opExtract, opLenS, opLenT, opLenM, opMin, opMax, opAppend, opCopy, opDelete] at he
  have rx := opd_vrel G hx
  split at he
  · rename_i vs hh
    simp only [Option.map_eq_some_iff, Prod.mk.injEq] at he
    obtain ⟨v, hv, rfl, rfl⟩ := he
    rw [hh] at rx
    simp only [vrel] at rx
    obtain ⟨xs, ev, hr⟩ := rx
    obtain ⟨v', hv', hrv⟩ := vrels_get hr hv
    rw [Array.getElem?_toList] at hv'
    refine .pure G.rel (v := v') ?_ hrv
    unfold execOp; rw [ho]
    simp [Instr.extract, ev, hv']
  · simp at he

theorem sim_assertT {x : Operand} {xt t : TypeId} {d : TypeDesc} {ok : Bool} {z : AVal} {ax : AOpd} (ho : o.op = .typeAssert x xt t ok) (hd : P.underlying t = some d) (hi : ∀ ms, d ≠ .interface ms) (hz : zeroT P t = some z) (hx : cOpd P x = some ax)
    (he : aop e h (.assertT t ok z ax) = some (av, h')) : Did P o a.eval h β w av h' := by
  simp only [aop, opMov, opPick, opAlloc, opBox, opBuild, opBuildSlice, opLoad, opStore, opNilCheck, opBin, opEql, opUn, opConv, opB2s, opMkIface, opMkFn, opMkMap, opMkSlice, opSlice, opFieldAddr, opField, opIdxS, opIdxA, opIndex, opIndexStr, opLookup, opMapUpd, opAssertT, opExtract, opLenS, opLenT, opLenM, opMin, opMax, opAppend, opCopy, opDelete] at he
  have rx := opd_vrel G hx
  simp only [zeroT, Option.bind_eq_some_iff] at hz
  obtain ⟨ti, hti, zv, hzv, hz⟩ := hz
  have hzr := (ofZero_vrel hz h β).1
  split at he
  · rename_i t' v hh
    rw [hh] at rx
    simp only [vrel] at rx
    obtain ⟨v', ev, hr⟩ := rx
    split at he
    · rename_i ht
      subst ht
      simp only [Option.some.injEq, Prod.mk.injEq] at he
      obtain ⟨rfl, rfl⟩ := he
      refine .pure G.rel (v := if ok then .tuple #[v', .bool true] else v') ?_ ?_
      · unfold execOp; rw [ho]
        simp only [Instr.typeAssert, Sem.run_bind, ev, run_underlying_of hd, Result.andThen_ok]
        cases d <;> first | exact absurd rfl (hi _) | simp
      · cases ok
        · exact hr
        · simp only [if_true, vrel]; exact ⟨_, rfl, by simp only [vrels]; exact ⟨_, _, rfl, hr, _, _, rfl, by simp [vrel], rfl⟩⟩
    · rename_i ht
      split at he
      · rename_i hok
        simp only [Option.some.injEq, Prod.mk.injEq] at he
        obtain ⟨rfl, rfl⟩ := he
        refine .pure G.rel (v := .tuple #[zv, .bool false]) ?_ ?_
        · unfold execOp; rw [ho]
          simp only [Instr.typeAssert, Sem.run_bind, ev, run_underlying_of hd, Result.andThen_ok]
          cases d <;> first | exact absurd rfl (hi _) | simp [ht, hok, run_zeroValue_of hti hzv]
        · simp only [vrel]; exact ⟨_, rfl, by simp only [vrels]; exact ⟨_, _, rfl, hzr, _, _, rfl, by simp [vrel], rfl⟩⟩
      · simp at he
  · rename_i hh
    rw [hh] at rx
    simp only [vrel] at rx
    split at he
    · rename_i hok
      simp only [Option.some.injEq, Prod.mk.injEq] at he
      obtain ⟨rfl, rfl⟩ := he
      refine .pure G.rel (v := .tuple #[zv, .bool false]) ?_ ?_
      · unfold execOp; rw [ho]
        simp only [Instr.typeAssert, Sem.run_bind, rx, run_underlying_of hd, Result.andThen_ok]
        cases d <;> first | exact absurd rfl (hi _) | simp [hok, run_zeroValue_of hti hzv]
      · simp only [vrel]; exact ⟨_, rfl, by simp only [vrels]; exact ⟨_, _, rfl, hzr, _, _, rfl, by simp [vrel], rfl⟩⟩
    · simp at he
  · simp at he

theorem sim_slice {t E : TypeId} {s : Nat} {x : Operand} {lo hi : Option Operand} {ax : AOpd} {al ah : Option AOpd} (ho : o.op = .slice t x lo hi none) (ht : P.underlying t = some (.slice E)) (hs : sizeT P E = some s) (hx : cOpd P x = some ax)
    (hl : cOpt P lo = some al) (hh : cOpt P hi = some ah) (he : aop e h (.slice s ax al ah) = some (av, h')) : Did P o a.eval h β w av h' := by
  have rx := opd_vrel G hx
  simp only [sizeT, Option.map_eq_some_iff] at hs
  obtain ⟨ti, hti, hsz⟩ := hs
  simp only [aop, opMov, opPick, opAlloc, opBox, opBuild, opBuildSlice, opLoad, opStore, opNilCheck, opBin, opEql, opUn, opConv, opB2s, opMkIface, opMkFn, opMkMap, opMkSlice, opSlice, opFieldAddr, opField, opIdxS, opIdxA, opIndex, opIndexStr, opLookup, opMapUpd, opAssertT, opExtract, opLenS, opLenT, opLenM, opMin, opMax, opAppend, opCopy, opDelete] at he
  -- the bounds
  have hlo : ∀ l, (match optOpd e al with | none => some 0 | some (.int _ n) => if 0 ≤ n then some n.toNat else none | _ => none) = some l → ∀ y : Nat, l ≤ y → ∀ c : BoundsCode,
      (match lo.map a.eval with | some v => Instr.sliceBound v y c | none => Pure.pure 0).run P w = .ok l w := by
    intro l hq y hy c
    cases lo with
    | none =>
      simp [cOpt] at hl; subst hl
      simp only [optOpd, Option.some.injEq] at hq
      subst hq; rfl
    | some lo =>
      simp only [cOpt, Option.map_eq_some_iff] at hl
      obtain ⟨b, hb, rfl⟩ := hl
      have rl := opd_vrel G hb
      simp only [optOpd] at hq
      split at hq
      · rename_i heq; cases heq
      · rename_i k n heq
        simp only [Option.some.injEq] at heq
        rw [heq] at rl
        simp only [vrel] at rl
        split at hq
        · rename_i h0
          simp only [Option.some.injEq] at hq
          simp only [Option.map_some, rl, Instr.sliceBound, Sem.run_bind, asIntOf, Sem.run_pure, Result.andThen_ok]
          rw [if_pos ⟨h0, by omega⟩, Sem.run_pure, hq]
        · simp at hq
      · simp at hq
  have hhi : ∀ (len r : Nat), (match optOpd e ah with | none => some len | some (.int _ n) => if 0 ≤ n then some n.toNat else none | _ => none) = some r → ∀ y : Nat, r ≤ y → ∀ c : BoundsCode,
      (match hi.map a.eval with | some v => Instr.sliceBound v y c | none => Pure.pure len).run P w = .ok r w := by
    intro len r hq y hy c
    cases hi with
    | none =>
      simp [cOpt] at hh; subst hh
      simp only [optOpd, Option.some.injEq] at hq
      subst hq; rfl
    | some hi =>
      simp only [cOpt, Option.map_eq_some_iff] at hh
      obtain ⟨b, hb, rfl⟩ := hh
      have rl := opd_vrel G hb
      simp only [optOpd] at hq
      split at hq
      · rename_i heq; cases heq
      · rename_i k n heq
        simp only [Option.some.injEq] at heq
        rw [heq] at rl
        simp only [vrel] at rl
        split at hq
        · rename_i h0
          simp only [Option.some.injEq] at hq
          simp only [Option.map_some, rl, Instr.sliceBound, Sem.run_bind, asIntOf, Sem.run_pure, Result.andThen_ok]
          rw [if_pos ⟨h0, by omega⟩, Sem.run_pure, hq]
        · simp at hq
      · simp at hq
  have hb : ∀ (len cap l r : Nat), (match optOpd e al with | none => some 0 | some (.int _ n) => if 0 ≤ n then some n.toNat else none | _ => none) = some l →
      (match optOpd e ah with | none => some len | some (.int _ n) => if 0 ≤ n then some n.toNat else none | _ => none) = some r → l ≤ r → r ≤ cap →
      (Instr.sliceBounds true len cap (lo.map a.eval) (hi.map a.eval) none).run P w = .ok (l, r, cap) w := by
    intro len cap l r h1 h2 h3 h4
    have e1 := hlo l h1 r h3 .sliceB
    have e2 := hhi len r h2 cap h4 .sliceAcap
    simp only [Instr.sliceBounds]
    cases lo <;> cases hi <;> simp only [Option.map_none, Option.map_some, Sem.run_bind, Sem.run_pure, Result.andThen_ok, Option.isSome_none, Bool.false_eq_true, if_false, if_true] at e1 e2 ⊢
    · simp only [Result.ok.injEq, and_true] at e1 e2; subst e1; subst e2; rfl
    · simp only [Result.ok.injEq, and_true] at e1; rw [e2]; subst e1; rfl
    · simp only [Result.ok.injEq, and_true] at e2; subst e2; rw [e1]; rfl
    · rw [e2, Result.andThen_ok, e1]; rfl
  split at he
  · -- nil
    rename_i hxx
    simp only [Option.bind_eq_some_iff] at he
    obtain ⟨l, hl1, r, hr1, he⟩ := he
    split at he
    · rename_i hc
      obtain ⟨rfl, rfl⟩ := hc
      simp only [Option.some.injEq, Prod.mk.injEq] at he
      obtain ⟨rfl, rfl⟩ := he
      rw [hxx] at rx
      simp only [vrel] at rx
      refine .pure G.rel (v := .slice none 0 0) ?_ (by simp [vrel])
      have := hb 0 0 0 0 hl1 hr1 (Nat.le_refl _) (Nat.le_refl _)
      unfold execOp; rw [ho]
      simp only [Instr.sliceAt, Instr.slice, Sem.run_bind, run_underlying_of ht, Result.andThen_ok, rx, Option.map_none, this, run_sizeOf_of hti, if_true, Sem.run_pure, Nat.sub_zero]
    · simp at he
  · rename_i id g off len es hxx
    simp only [Option.bind_eq_some_iff] at he
    obtain ⟨l, hl1, r, hr1, he⟩ := he
    split at he
    · rename_i hc
      obtain ⟨c1, c2, rfl, c4⟩ := hc
      simp only [Option.some.injEq, Prod.mk.injEq] at he
      obtain ⟨rfl, rfl⟩ := he
      rw [hxx] at rx
      simp only [vrel] at rx
      obtain ⟨ad, cap, ev, hs1, hs2, hs3⟩ := rx
      obtain ⟨h1, h2, h3⟩ := hs3 c4
      have := hb len cap l r hl1 hr1 c1 (by omega)
      refine .pure G.rel (v := .slice (if cap = l then some ad else (some ad).map (·.add (l * es))) (r - l) (cap - l)) ?_ ?_
      · unfold execOp; rw [ho]
        simp only [Instr.sliceAt, Instr.slice, Sem.run_bind, run_underlying_of ht, Result.andThen_ok, ev, Option.map_none, this, run_sizeOf_of hti, hsz, Sem.run_pure]
      · simp only [vrel]
        by_cases hcl : cap = l
        · rw [if_pos hcl]
          exact ⟨ad, cap - l, rfl, hs1, hs2, fun _ => ⟨by omega, by
            have : (cap - l) * es = 0 := by rw [hcl, Nat.sub_self, Nat.zero_mul]
            rw [this, ← hcl]; omega, fun h0 => by omega⟩⟩
        · rw [if_neg hcl]
          have hlt : l < cap := by omega
          have ha := h3 (by omega)
          subst ha
          refine ⟨_, cap - l, rfl, hs1, hs2, fun _ => ⟨by omega, ?_, fun _ => ?_⟩⟩
          · have : l * es + (cap - l) * es = cap * es := by rw [← Nat.add_mul]; congr 1; omega
            omega
          · show (⟨(β id).b, (β id).o + off, none⟩ : Addr).add (l * es) = _
            rw [addr_add, Nat.add_assoc]
    · simp at he
  · simp at he

end
end Go.AM
