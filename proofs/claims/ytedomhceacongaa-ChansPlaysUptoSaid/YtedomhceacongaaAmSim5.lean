/-
  AM, part 12: equality as an operation; maps; lengths; append, copy, texts of bytes.
-/
import Derived.Test.YtedomhceacongaaAmSim4
namespace Go.AM
set_option linter.unusedVariables false
set_option linter.unusedSimpArgs false

theorem findNow_run {h : AHeap} {β : Pl} {d : TypeDesc} {kk : LK} (hd : (kk = .int ∧ ∃ q, d = .int q) ∨ (kk = .str ∧ d = .string)) {k : AVal} {kv : Value} (rk : vrel h β k kv) :
    ∀ {es : List (AVal × AVal)} {fs : List MapEntry} {r : Option (Nat × AVal)} (i : Nat), erel h β es fs → findK kk k es = some r →
      (r = none ∧ Instr.findNow d kv fs i = some none) ∨ ∃ j av v key, r = some (j, av) ∧ Instr.findNow d kv fs i = some (some (i + j, v)) ∧ vrel h β av v ∧ es[j]? = some (key, av) ∧ litEq kk k key = some true
  | [], fs, r, i, he, hf => by
    simp only [findK, Option.some.injEq] at hf
    subst hf
    have : fs = [] := by have := he.1; simp [vrels] at this; exact this
    subst this
    exact .inl ⟨rfl, rfl⟩
  | (k', v) :: es, fs, r, i, he, hf => by
    obtain ⟨h1, h2⟩ := he
    simp only [List.map_cons] at h1 h2
    cases fs with
    | nil => simp [vrels] at h1
    | cons f fs =>
      obtain ⟨r1, r2⟩ := vrels_cons_cons.1 h1
      obtain ⟨s1, s2⟩ := vrels_cons_cons.1 h2
      have key : ∀ b, litEq kk k k' = some b → Instr.sameNow d kv f.key = some b := by
        intro b hb
        rcases hd with ⟨rfl, q, rfl⟩ | ⟨rfl, rfl⟩
        · cases k <;> cases k' <;> simp [litEq] at hb
          simp only [vrel] at rk r1
          rw [rk, r1]
          simpa [Instr.sameNow] using hb
        · cases k <;> cases k' <;> simp [litEq] at hb
          simp only [vrel] at rk r1
          rw [rk, r1]
          simp only [Instr.sameNow, beq_toListBytes, ByteArray.toList_eq]
          simpa using hb
      simp only [findK] at hf
      split at hf
      · rename_i hb
        simp only [Option.some.injEq] at hf
        subst hf
        right
        refine ⟨0, v, f.val, k', rfl, ?_, s1, rfl, hb⟩
        simp [Instr.findNow, key _ hb]
      · rename_i hb
        simp only [Option.map_eq_some_iff] at hf
        obtain ⟨r', hr', rfl⟩ := hf
        have := findNow_run hd rk (i + 1) ⟨r2, s2⟩ hr'
        rcases this with ⟨rfl, e⟩ | ⟨j, av, v', key', rfl, e, hv, hj, hl⟩
        · left
          exact ⟨rfl, by simp [Instr.findNow, key _ hb, e]⟩
        · right
          refine ⟨j + 1, av, v', key', rfl, ?_, hv, by simpa using hj, hl⟩
          simp only [Instr.findNow, key _ hb, e]
          congr 3; omega
      · simp at hf

theorem checkKey_run {P : Program} {w : World} {t : TypeId} {d : TypeDesc} (hu : P.underlying t = some d) (hd : (∃ q, d = .int q) ∨ d = .string) (em : Bool) (n : Nat) (v : Value) : (Instr.checkKey em (n + 1) t v).run P w = .ok () w := by
  rcases hd with ⟨q, rfl⟩ | rfl <;> simp [Instr.checkKey, run_underlying_of hu]

theorem mapK_of {P : Program} {t : TypeId} {kk : LK} (hk : mapK P t = some kk) : ∃ kt e d, P.underlying t = some (.map kt e) ∧ P.underlying kt = some d ∧ ((kk = .int ∧ ∃ q, d = .int q) ∨ (kk = .str ∧ d = .string)) := by
  unfold mapK at hk
  split at hk
  · rename_i kt e hu
    unfold litK at hk
    cases hkt : P.underlying kt with
    | none => rw [hkt] at hk; simp at hk
    | some d =>
      rw [hkt] at hk
      cases d <;> simp at hk
      · subst hk; exact ⟨kt, e, _, hu, hkt, .inl ⟨rfl, _, rfl⟩⟩
      · subst hk; exact ⟨kt, e, _, hu, hkt, .inr ⟨rfl, rfl⟩⟩
  · simp at hk

section
variable {P : Program} {h h' : AHeap} {β : Pl} {w : World} {e : Env} {a : Act} {o : Oper} {av : AVal} (G : Good P h β w e a.tmps)
 include G

theorem sim_eql {t u : TypeId} {k : EqK} {x y : Operand} {ax ay : AOpd} {neg : Bool} (ho : o.op = .binOp (if neg then .neq else .eql) t x y u) (hk : eqK P t = some k)
    (hg : (∃ ms, P.underlying t = some (.interface ms)) → y = .const .nilIface)
    (hx : cOpd P x = some ax) (hy : cOpd P y = some ay) (he : aop e h (.eql neg k ax ay) = some (av, h')) : Did P o a.eval h β w av h' := by
  simp only [aop, opMov, opPick, opAlloc, opBox, opBuild, opBuildSlice, opLoad, opStore, opNilCheck, opBin, opEql, opUn, opConv, opB2s, opMkIface, opMkFn, opMkMap, opMkSlice, opSlice, opFieldAddr, opField, opIdxS, opIdxA, opIndex, opIndexStr, opLookup, opMapUpd, opAssertT, opExtract, opLenS, opLenT, opLenM, opMin, opMax, opAppend, opCopy, opDelete, Option.map_eq_some_iff, Prod.mk.injEq] at he
  obtain ⟨b, hb, rfl, rfl⟩ := he
  have rx := opd_vrel G hx
  have ry := opd_vrel G hy
  have hr := equal_run (w := w) hk hb rx ry
  refine .pure G.rel (v := .bool (if neg then !b else b)) ?_ (by cases neg <;> simp [vrel])
  have h1 : (eqGuard (if neg then .neq else .eql) t x y (a.eval x) (a.eval y)).run P w = .ok () w := by
    have hop : ((if neg then BinOp.neq else BinOp.eql) matches .eql | .neq) = true := by cases neg <;> rfl
    unfold eqGuard
    by_cases hif : ∃ ms, P.underlying t = some (.interface ms)
    · have hyc := hg hif
      subst hyc
      obtain ⟨ms, hu⟩ := hif
      have hki : k = .iface := by unfold eqK at hk; rw [hu] at hk; simpa using hk.symm
      subst hki
      have hyn : opd e ay = .nili := by simp [cOpd, ofVal] at hy; subst hy; rfl
      rw [hyn] at hb
      cases hxo : opd e ax <;> rw [hxo] at hb <;> simp [aeq, isNil] at hb
      · rw [hxo] at rx; simp only [vrel] at rx; obtain ⟨x', ex, _⟩ := rx
        rw [ex]
        cases neg <;> simp [Act.eval]
      · rw [hxo] at rx; simp only [vrel] at rx
        rw [rx]
        cases neg <;> simp [Act.eval]
    · -- no interface: structs and arrays by their closed test
      unfold eqK at hk
      split at hk
      · simp only [Option.some.injEq] at hk; subst hk
        cases hxo : opd e ax <;> rw [hxo] at hb <;> simp [aeq, isNil] at hb
        cases hyo : opd e ay <;> rw [hyo] at hb <;> simp [aeq, isNil] at hb
        rw [hxo] at rx; simp only [vrel] at rx; rw [rx]
        cases neg <;> simp
      · simp only [Option.some.injEq] at hk; subst hk
        cases hxo : opd e ax <;> rw [hxo] at hb <;> simp [aeq, isNil] at hb
        · rw [hxo] at rx; simp only [vrel] at rx; rw [rx]; cases neg <;> simp
        · rw [hxo] at rx; simp only [vrel] at rx; obtain ⟨_, rx, _⟩ := rx; rw [rx]; cases neg <;> simp
      · simp only [Option.some.injEq] at hk; subst hk
        cases hxo : opd e ax <;> rw [hxo] at hb <;> simp [aeq, isNil] at hb
        · rw [hxo] at rx; simp only [vrel] at rx; rw [rx]; cases neg <;> simp
        · rw [hxo] at rx; simp only [vrel] at rx; obtain ⟨_, _, rx, _⟩ := rx; rw [rx]; cases neg <;> simp
      · simp only [Option.some.injEq] at hk; subst hk
        cases hxo : opd e ax <;> rw [hxo] at hb <;> simp [aeq, isNil] at hb
        · rw [hxo] at rx; simp only [vrel] at rx; rw [rx]; cases neg <;> simp
        · rw [hxo] at rx; simp only [vrel] at rx; obtain ⟨_, rx, _⟩ := rx; rw [rx]; cases neg <;> simp
      · simp only [Option.some.injEq] at hk; subst hk
        cases hxo : opd e ax <;> rw [hxo] at hb <;> simp [aeq, isNil] at hb
        · rw [hxo] at rx; simp only [vrel] at rx; obtain ⟨_, _, rx, _⟩ := rx; rw [rx]; cases neg <;> simp
        · rw [hxo] at rx; simp only [vrel] at rx; rw [rx]; cases neg <;> simp
      · rename_i ms hu
        exact absurd ⟨ms, hu⟩ hif
      · rename_i fs hu
        split at hk
        · rename_i hc
          simp only [Bool.and_eq_true, Bool.not_eq_true'] at hc
          simp only [Option.map_eq_some_iff] at hk
          obtain ⟨ks, hks, rfl⟩ := hk
          cases hxo : opd e ax <;> rw [hxo] at hb <;> simp [aeq] at hb
          cases hyo : opd e ay <;> rw [hyo] at hb <;> simp [aeq] at hb
          rw [hxo] at rx; rw [hyo] at ry
          simp only [vrel] at rx ry
          obtain ⟨X, ex, _⟩ := rx
          obtain ⟨Y, ey, _⟩ := ry
          rw [ex, ey]
          cases neg <;> simp [hc.2]
        · simp at hk
      · rename_i n el hu
        split at hk
        · rename_i hc
          simp only [Bool.and_eq_true, Bool.not_eq_true'] at hc
          simp only [Option.map_eq_some_iff] at hk
          obtain ⟨ks, hks, rfl⟩ := hk
          cases hxo : opd e ax <;> rw [hxo] at hb <;> simp [aeq] at hb
          cases hyo : opd e ay <;> rw [hyo] at hb <;> simp [aeq] at hb
          rw [hxo] at rx; rw [hyo] at ry
          simp only [vrel] at rx ry
          obtain ⟨X, ex, _⟩ := rx
          obtain ⟨Y, ey, _⟩ := ry
          rw [ex, ey]
          cases neg <;> simp [hc.2]
        · simp at hk
      · simp at hk
  have h2 : (binOp (if neg then .neq else .eql) t (a.eval x) (a.eval y)).run P w = .ok (.bool (if neg then !b else b)) w := by
    have hlit : ∀ (v v' : Value), (∀ k n, v ≠ .int k n) → (∀ k n, v ≠ .float k n) → (∀ k n m, v ≠ .complex k n m) → (∀ n, v ≠ .string n) →
        binOp (if neg then .neq else .eql) t v v' = (if neg then (do pure (.bool (!(← Op.equal t v v')))) else (do pure (.bool (← Op.equal t v v')))) := by
      intro v v' q1 q2 q3 q4
      cases neg <;> cases v <;> first | exact absurd rfl (q1 _ _) | exact absurd rfl (q2 _ _) | exact absurd rfl (q3 _ _ _) | exact absurd rfl (q4 _) | rfl
    have hne : (∀ k n, a.eval x ≠ .int k n) ∧ (∀ k n, a.eval x ≠ .float k n) ∧ (∀ k n m, a.eval x ≠ .complex k n m) ∧ (∀ n, a.eval x ≠ .string n) := by
      cases k <;> cases hxo : opd e ax <;> rw [hxo] at hb <;> simp [aeq, isNil] at hb <;> rw [hxo] at rx <;> simp only [vrel] at rx <;>
        first
        | (rw [rx]; simp; done)
        | (obtain ⟨_, rx, _⟩ := rx; rw [rx]; simp; done)
        | (obtain ⟨_, _, rx, _⟩ := rx; rw [rx]; simp; done)
    rw [hlit _ _ hne.1 hne.2.1 hne.2.2.1 hne.2.2.2]
    cases neg <;> simp [hr]
  unfold execOp; rw [ho]
  simp only [Sem.run_bind, h1, h2, Result.andThen_ok, Sem.run_pure]

end
end Go.AM
