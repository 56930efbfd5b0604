/-
  AM, part 20: one more instruction of a region whose order is open.
-/
import Derived.Test.YtedomhceacongaaAmDraw3
namespace Go.AM
set_option linter.unusedVariables false
set_option linter.unusedSimpArgs false

theorem free_run {P : Program} {h : AHeap} {β : Pl} {w : World} {e : Env} {a : Act} {o : Oper} (G : Good P h β w e a.tmps) {ao : AOp} (hcl : opClass ao = .free) (hop : cOp P o.op = some ao) {hx h2 : AHeap} {av : AVal} (he : aop e hx ao = some (av, h2)) :
    ∃ v c ty vs, (execOp a.eval o).run P w = .ok (.value v) (w.alloc (.cells c ty)) ∧ h2 = hx.push (.cells 0 false vs) ∧ vs.length ≤ c.size ∧ (∀ h β, vrels h β vs (c.toList.take vs.length)) ∧
      ∀ h3 β3, hx.n < h3.n → h3.gen hx.n = 0 → β3 hx.n = ⟨w.heap.size, 0, vs.length⟩ → vrel h3 β3 av v := by
  have hk : (∃ z, ao = .alloc z) ∨ ∃ s b z n, ao = .mkSlice s b z n := by
    cases ao <;> simp [opClass] at hcl <;> simp
  rcases hk with ⟨z, rfl⟩ | ⟨s, b, z, al, rfl⟩
  · have ho : ∃ t zz, o.op = .alloc t ∧ zeroT P t = some zz ∧ z = zz.cells := by
      cases hoo : o.op <;> rw [hoo] at hop <;> try (simp [cOp, Option.bind_eq_some_iff, Option.map_eq_some_iff] at hop; done)
      case alloc t => simp only [cOp, Option.map_eq_some_iff] at hop; obtain ⟨zz, h1, h2⟩ := hop; simp only [AOp.alloc.injEq] at h2; exact ⟨t, zz, rfl, h1, h2.symm⟩
      all_goals (exfalso; simp only [cOp] at hop; repeat' (first | (simp [Option.bind_eq_some_iff, Option.map_eq_some_iff] at hop; done) | split at hop | (obtain ⟨_, _, hop⟩ := hop) | (simp only [Option.bind_eq_some_iff, Option.map_eq_some_iff, Prod.exists] at hop; obtain ⟨_, _, hop⟩ := hop) | contradiction | (rename_i heq _ _; cases heq) | (rename_i heq _ _ _ _ _; cases heq) | (simp_all; done)))
    obtain ⟨t, zz, ho, hz, rfl⟩ := ho
    simp only [aop, opMov, opPick, opAlloc, opBox, opBuild, opBuildSlice, opLoad, opStore, opNilCheck, opBin, opEql, opUn, opConv, opB2s, opMkIface, opMkFn, opMkMap, opMkSlice, opSlice, opFieldAddr, opField, opIdxS, opIdxA, opIndex, opIndexStr, opLookup, opMapUpd, opAssertT, opExtract, opLenS, opLenT, opLenM, opMin, opMax, opAppend, opCopy, opDelete, Option.some.injEq, Prod.mk.injEq] at he
    obtain ⟨rfl, rfl⟩ := he
    simp only [zeroT, Option.bind_eq_some_iff] at hz
    obtain ⟨i, hi, zv, hzv, hz⟩ := hz
    have hcells := fun h β => (ofZero_vrel hz h β).2.1
    have hl := vrels_length (hcells h β)
    simp at hl
    refine ⟨.pointer (some ⟨w.heap.size, 0, none⟩), zv.cells, t, zz.cells, ?_, rfl, by omega, fun h β => by rw [List.take_of_length_le (by simp; omega)]; exact hcells h β, fun h3 β3 h1 h2 h4 => ?_⟩
    · unfold execOp; rw [ho]; simp only [Instr.alloc, Sem.run_bind, run_zeroValue_of hi hzv, newVar, newRow, run_newObj, Result.andThen_ok, Sem.run_pure]; rfl
    · simp only [vrel]
      exact ⟨_, rfl, h1, Nat.zero_le _, fun _ => by rw [h4]⟩
  · have ho : ∃ t l c E, o.op = .makeSlice t l c ∧ sameOpd l c = true ∧ elemT P t = some E ∧ eInfo P E = some (s, b, z) ∧ cOpd P l = some al := by
      cases hoo : o.op <;> rw [hoo] at hop <;> try (simp [cOp, Option.bind_eq_some_iff, Option.map_eq_some_iff] at hop; done)
      case makeSlice t l c =>
        simp only [cOp] at hop
        split at hop
        · rename_i hlc
          simp only [Option.bind_eq_some_iff, Option.map_eq_some_iff, Prod.exists] at hop
          obtain ⟨E, hE, s', b', z', hi, al', hl, heq⟩ := hop
          simp only [AOp.mkSlice.injEq] at heq
          obtain ⟨rfl, rfl, rfl, rfl⟩ := heq
          exact ⟨t, l, c, E, rfl, hlc, hE, hi, hl⟩
        · simp at hop
      all_goals (exfalso; simp only [cOp] at hop; repeat' (first | (simp [Option.bind_eq_some_iff, Option.map_eq_some_iff] at hop; done) | split at hop | (obtain ⟨_, _, hop⟩ := hop) | (simp only [Option.bind_eq_some_iff, Option.map_eq_some_iff, Prod.exists] at hop; obtain ⟨_, _, hop⟩ := hop) | contradiction | (rename_i heq _ _; cases heq) | (rename_i heq _ _ _ _ _; cases heq) | (simp_all; done)))
    obtain ⟨t, l, c, E, ho, hlc, hE, hi, hl⟩ := ho
    have hlc : a.eval l = a.eval c := by
      unfold sameOpd at hlc
      split at hlc
      · simp only [beq_iff_eq] at hlc; subst hlc; rfl
      · simp only [decide_eq_true_eq] at hlc; obtain ⟨rfl, rfl⟩ := hlc; rfl
      · simp at hlc
    simp only [aop, opMov, opPick, opAlloc, opBox, opBuild, opBuildSlice, opLoad, opStore, opNilCheck, opBin, opEql, opUn, opConv, opB2s, opMkIface, opMkFn, opMkMap, opMkSlice, opSlice, opFieldAddr, opField, opIdxS, opIdxA, opIndex, opIndexStr, opLookup, opMapUpd, opAssertT, opExtract, opLenS, opLenT, opLenM, opMin, opMax, opAppend, opCopy, opDelete] at he
    have rl := opd_vrel G hl
    split at he
    · rename_i k n hh
      rw [hh] at rl
      simp only [vrel] at rl
      split at he
      · rename_i hc
        obtain ⟨c1, c2, c3⟩ := hc
        simp only [Option.some.injEq, Prod.mk.injEq] at he
        obtain ⟨rfl, rfl⟩ := he
        obtain ⟨zv, hI, _, hzc⟩ := eInfo_of G hi
        have hzv : ∀ h β, vrels h β z zv.cells.toList := by
          intro h' β'
          simp only [eInfo, Option.bind_eq_some_iff] at hi
          obtain ⟨i, hi1, zv', hzv', za, hza, hi⟩ := hi
          split at hi
          · simp only [Option.some.injEq, Prod.mk.injEq] at hi
            obtain ⟨_, _, rfl⟩ := hi
            obtain ⟨i', hti, _, _, hzz⟩ := hI.info
            rw [hi1] at hti; cases hti
            rw [hzv'] at hzz; cases hzz
            exact (ofZero_vrel hza h' β').2.1
          · simp at hi
        have hz := fun h β => zeros_vrels (hzv h β) hI.zsize hI.pos (n.toNat * s)
        obtain ⟨i, hti, hsz, hby, hzz⟩ := hI.info
        have hbp := hI.bpos
        have hsp := hI.pos
        obtain ⟨m, rfl⟩ := Int.eq_ofNat_of_zero_le c1
        simp only [Int.toNat_natCast] at c2 c3 hz ⊢
        have hm : m ≤ 1099511627776 := Nat.le_trans (Nat.le_mul_of_pos_right m hbp) c2
        have hw : IntKind.i64.wrap (m : Int) = (m : Int) := by simp [IntKind.wrap, IntKind.signed, IntKind.bits]; omega
        have hbm : ((b : Int) * (m : Int)) ≤ 1099511627776 := by
          have h1 : b * m ≤ 1099511627776 := by rw [Nat.mul_comm]; exact c2
          have h2 : ((b : Int) * (m : Int)) = ((b * m : Nat) : Int) := by rw [Int.natCast_mul]
          omega
        refine ⟨.slice (some ⟨w.heap.size, 0, none⟩) m m, (Array.range (m * s)).map fun i => zv.cells[i % zv.cells.size]!, E, (List.range (m * s)).map fun i => z.getD (i % s) .undef, ?_, rfl, by simp, fun h β => ?_, fun h3 β3 h1 h2 h4 => ?_⟩
        · unfold execOp; rw [ho]
          simp only [Instr.makeSlice, Sem.run_bind, run_underlying_of (elemT_of hE), Result.andThen_ok, rl, ← hlc, asInt, asIntOf, Sem.run_pure, run_typeInfo_of hti, hby, hw, run_sizeOf_of hti, hsz, run_askRoom, Int.toNat_natCast]
          rw [if_neg (by simp only [Bool.or_eq_true, decide_eq_true_eq]; omega)]
          simp only [Sem.run_bind, run_askRoom, run_sizeOf_of hti, hsz, Result.andThen_ok, Int.toNat_natCast]
          have e5 : ∀ f : Nat → Value, Array.map f (Array.range 0) = #[] := by intro f; simp
          by_cases h0 : m * s = 0
          · simp only [h0, if_true, Sem.run_bind, Sem.run_pure, Result.andThen_ok, run_askRoom, newRow, run_newObj, e5]
            rfl
          · simp only [h0, if_false, Sem.run_bind, Sem.run_pure, Result.andThen_ok, run_askRoom, run_zeroValue_of hti hzz, newRow, run_newObj]
            rfl
        · rw [List.take_of_length_le (by simp)]
          exact hz h β
        · simp only [vrel]
          exact ⟨_, m, rfl, h1, Nat.zero_le _, fun _ => ⟨Nat.le_refl _, by rw [h4]; simp, fun _ => by rw [h4]⟩⟩
      · simp at he
    · simp at he

end Go.AM
