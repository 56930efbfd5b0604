/-
  AM, part 15: functions, loops, calls: whatever the machine comes to, the model comes to.
-/
import Derived.Test.YtedomhceacongaaAmDraw7
import Derived.Recover
namespace Go.AM
set_option linter.unusedVariables false
set_option linter.unusedSimpArgs false

/-- What is run again does as the model's loops do. -/
def SoundLoop (P : Program) (n : Nat) (r : Rec) : Prop :=
  ∀ (b : ACode) (s : St) (x : AExit) (s' : St), r.code (.loop b) s = some (x, s') → ∀ (N : Nat) (mb : Code), cCode P N mb = some b →
    ∀ (β : Pl) (w : World) (a : Act), Good P s.h β w s.e a.tmps → N ≤ a.tmps.size → ∀ (Q : Exit → Act → World → Prop), (∀ ex a' w', Fin P N s.h β w a.defers x s' ex a' w' → Q ex a' w') →
      ∀ ρ : Option Nat, Code.roundsIn (fen ρ) 0 P mb Q n a w

theorem sim_code {P : Program} {r : Rec} {n : Nat} (SC : SoundCall P r) (SL : SoundLoop P n r) {N : Nat} {ρ : Option Nat} (hfol : P.follows .mixedOrders = true) : ∀ (mc : Code) (c : ACode), cCode P N mc = some c →
    ∀ (s : St) (x : AExit) (s' : St), ex r c s = some (x, s') → ∀ (β : Pl) (w : World) (a : Act), Good P s.h β w s.e a.tmps → N ≤ a.tmps.size →
      ∀ (Q : Exit → Act → World → Prop), (∀ e a' w', Fin P N s.h β w a.defers x s' e a' w' → Q e a' w') → mc.wpIn (fen ρ) 0 P Q a w := by
  intro mc
  induction mc with
  | skip =>
    intro c hc s x s' he β w a G hN Q hQ
    simp only [cCode, Option.some.injEq] at hc
    subst hc
    simp only [ex, Option.some.injEq, Prod.mk.injEq] at he
    obtain ⟨rfl, rfl⟩ := he
    exact wpIn_skip (hQ _ _ _ ⟨β, G, Ext.refl _ _ _, rfl, hN, rfl⟩)
  | exit id =>
    intro c hc s x s' he β w a G hN Q hQ
    simp only [cCode, Option.some.injEq] at hc
    subst hc
    simp only [ex, Option.some.injEq, Prod.mk.injEq] at he
    obtain ⟨rfl, rfl⟩ := he
    exact wpIn_exit (hQ _ _ _ ⟨β, G, Ext.refl _ _ _, rfl, hN, rfl⟩)
  | ret =>
    intro c hc s x s' he β w a G hN Q hQ
    simp only [cCode, Option.some.injEq] at hc
    subst hc
    simp only [ex, Option.some.injEq, Prod.mk.injEq] at he
    obtain ⟨rfl, rfl⟩ := he
    exact wpIn_ret (hQ _ _ _ ⟨β, G, Ext.refl _ _ _, rfl, hN, rfl⟩)
  | region id ops draw =>
    intro c hc s x s' he β w a G hN Q hQ
    simp only [cCode] at hc
    split at hc
    · rename_i hd
      subst hd
      simp only [Option.map_eq_some_iff] at hc
      obtain ⟨is, his, rfl⟩ := hc
      simp only [ex] at he
      exact sim_region SC his he G hN hQ
    · rename_i hd
      have hd' : draw = true := by simpa using hd
      subst hd'
      exact sim_draw SC hfol hc he G hN hQ
  | seq p q ihp ihq =>
    intro c hc s x s' he β w a G hN Q hQ
    simp only [cCode, Option.bind_eq_some_iff, Option.map_eq_some_iff] at hc
    obtain ⟨cp, hp, cq, hq, rfl⟩ := hc
    simp only [ex] at he
    refine wpIn_seq ?_
    cases hp1 : ex r cp s with
    | none => rw [hp1] at he; simp at he
    | some y =>
      obtain ⟨x1, s1⟩ := y
      rw [hp1] at he
      refine ihp cp hp s x1 s1 hp1 β w a G hN _ ?_
      intro e a1 w1 F
      cases x1 with
      | normal =>
        simp only at he
        have F' := F
        obtain ⟨β1, G1, X1, hd1, hN1, hx1⟩ := F
        simp only [exitRel] at hx1
        subst hx1
        simp only [Exit.then]
        exact ihq cq hq s1 x s' he β1 w1 a1 G1 hN1 Q (fun e a' w' F2 => hQ e a' w' (by rw [hd1] at F2; exact F2.trans X1))
      | exit id =>
        simp only [Option.some.injEq, Prod.mk.injEq] at he
        obtain ⟨rfl, rfl⟩ := he
        have F' := F
        obtain ⟨β1, G1, X1, hd1, hN1, hx1⟩ := F
        simp only [exitRel] at hx1
        subst hx1
        exact hQ _ _ _ F'
      | ret =>
        simp only [Option.some.injEq, Prod.mk.injEq] at he
        obtain ⟨rfl, rfl⟩ := he
        have F' := F
        obtain ⟨β1, G1, X1, hd1, hN1, hx1⟩ := F
        simp only [exitRel] at hx1
        subst hx1
        exact hQ _ _ _ F'
      | panic v =>
        simp only [Option.some.injEq, Prod.mk.injEq] at he
        obtain ⟨rfl, rfl⟩ := he
        have F' := F
        obtain ⟨β1, G1, X1, hd1, hN1, v', hx1, _⟩ := F
        subst hx1
        exact hQ _ _ _ F'
  | cond c0 p q ihp ihq =>
    intro c hc s x s' he β w a G hN Q hQ
    simp only [cCode, Option.bind_eq_some_iff, Option.map_eq_some_iff] at hc
    obtain ⟨cc, h1, cp, hp, cq, hq, rfl⟩ := hc
    simp only [ex] at he
    have rc := opd_vrel G h1
    split at he
    · rename_i hb
      rw [hb] at rc
      simp only [vrel] at rc
      exact wpIn_cond_true rc (ihp cp hp s x s' he β w a G hN Q hQ)
    · rename_i hb
      rw [hb] at rc
      simp only [vrel] at rc
      exact wpIn_cond_false rc (ihq cq hq s x s' he β w a G hN Q hQ)
    · simp at he
  | block id b ih =>
    intro c hc s x s' he β w a G hN Q hQ
    simp only [cCode, Option.map_eq_some_iff] at hc
    obtain ⟨cb, hb, rfl⟩ := hc
    simp only [ex] at he
    refine wpIn_block ?_
    cases hp1 : ex r cb s with
    | none => rw [hp1] at he; simp at he
    | some y =>
      obtain ⟨x1, s1⟩ := y
      rw [hp1] at he
      refine ih cb hb s x1 s1 hp1 β w a G hN _ ?_
      intro e a1 w1 F
      cases x1 with
      | normal =>
        simp only [Option.some.injEq, Prod.mk.injEq] at he
        obtain ⟨rfl, rfl⟩ := he
        have F' := F
        obtain ⟨β1, G1, X1, hd1, hN1, hx1⟩ := F
        simp only [exitRel] at hx1
        subst hx1
        exact hQ _ _ _ F'
      | exit id' =>
        obtain ⟨β1, G1, X1, hd1, hN1, hx1⟩ := F
        simp only [exitRel] at hx1
        subst hx1
        simp only [Exit.inBlock]
        simp only at he
        split at he
        · rename_i hid
          simp only [Option.some.injEq, Prod.mk.injEq] at he
          obtain ⟨rfl, rfl⟩ := he
          rw [if_pos hid]
          exact hQ _ _ _ ⟨β1, G1, X1, hd1, hN1, rfl⟩
        · rename_i hid
          simp only [Option.some.injEq, Prod.mk.injEq] at he
          obtain ⟨rfl, rfl⟩ := he
          rw [if_neg hid]
          exact hQ _ _ _ ⟨β1, G1, X1, hd1, hN1, rfl⟩
      | ret =>
        simp only [Option.some.injEq, Prod.mk.injEq] at he
        obtain ⟨rfl, rfl⟩ := he
        have F' := F
        obtain ⟨β1, G1, X1, hd1, hN1, hx1⟩ := F
        simp only [exitRel] at hx1
        subst hx1
        exact hQ _ _ _ F'
      | panic v =>
        simp only [Option.some.injEq, Prod.mk.injEq] at he
        obtain ⟨rfl, rfl⟩ := he
        have F' := F
        obtain ⟨β1, G1, X1, hd1, hN1, v', hx1, _⟩ := F
        subst hx1
        exact hQ _ _ _ F'
  | loop b ih =>
    intro c hc s x s' he β w a G hN Q hQ
    simp only [cCode, Option.map_eq_some_iff] at hc
    obtain ⟨cb, hb, rfl⟩ := hc
    simp only [ex] at he
    refine wpIn_loop_rounds (n + 1) ?_
    rw [roundsIn_succ]
    cases hp1 : ex r cb s with
    | none => rw [hp1] at he; simp at he
    | some y =>
      obtain ⟨x1, s1⟩ := y
      rw [hp1] at he
      refine ih cb hb s x1 s1 hp1 β w a G hN _ ?_
      intro e a1 w1 F
      cases x1 with
      | normal =>
        simp only at he
        obtain ⟨β1, G1, X1, hd1, hN1, hx1⟩ := F
        simp only [exitRel] at hx1
        subst hx1
        simp only [Exit.then]
        exact SL cb s1 x s' he N b hb β1 w1 a1 G1 hN1 Q (fun e a' w' F2 => hQ e a' w' (by rw [hd1] at F2; exact F2.trans X1)) ρ
      | exit id =>
        simp only [Option.some.injEq, Prod.mk.injEq] at he
        obtain ⟨rfl, rfl⟩ := he
        have F' := F
        obtain ⟨β1, G1, X1, hd1, hN1, hx1⟩ := F
        simp only [exitRel] at hx1
        subst hx1
        exact hQ _ _ _ F'
      | ret =>
        simp only [Option.some.injEq, Prod.mk.injEq] at he
        obtain ⟨rfl, rfl⟩ := he
        have F' := F
        obtain ⟨β1, G1, X1, hd1, hN1, hx1⟩ := F
        simp only [exitRel] at hx1
        subst hx1
        exact hQ _ _ _ F'
      | panic v =>
        simp only [Option.some.injEq, Prod.mk.injEq] at he
        obtain ⟨rfl, rfl⟩ := he
        have F' := F
        obtain ⟨β1, G1, X1, hd1, hN1, v', hx1, _⟩ := F
        subst hx1
        exact hQ _ _ _ F'
  | rangeFunc f ps p q ihp ihq => intro c hc; simp [cCode] at hc
  | scope b ih => intro c hc; simp [cCode] at hc
  | label l => intro c hc; simp [cCode] at hc
  | goto l => intro c hc; simp [cCode] at hc
  | refuse y => intro c hc; simp [cCode] at hc

/-- The machine's program is the model's. -/
structure ProgOk (P : Program) (AP : AProg) : Prop where
  fol : P.follows .mixedOrders = true
  fn : ∀ f afn, Tr.get AP f = some afn → ∃ fn, P.funcs[f]? = some fn ∧ (fn.name == "runtime.NumGoroutine") = false ∧ cFun P fn = some afn

theorem envOf_val {h : AHeap} {β : Pl} : ∀ {args : List AVal} {vs : List Value} (i : Nat), vrels h β args vs → ∀ t, vrel h β ((envOf i args).val t) (if t < i then undef else vs.getD (t - i) undef) ∨ (t < i ∧ (envOf i args).val t = .undef) ∨ (vs.length ≤ t - i ∧ (envOf i args).val t = .undef)
  | [], vs, i, r, t => by
    rw [vrels_nil] at r; subst r
    right; right
    exact ⟨by simp, rfl⟩
  | a :: as, vs, i, r, t => by
    obtain ⟨v, ws, rfl, r1, r2⟩ := vrels_cons.1 r
    have ih := envOf_val (i + 1) r2 t
    simp only [envOf, Env.val, Tr.get_set]
    by_cases ht : t = i
    · subst ht
      left
      rw [if_pos rfl, if_neg (by omega)]
      simpa using r1
    · rw [if_neg ht]
      simp only [Env.val] at ih
      rcases ih with ih | ⟨h1, h2⟩ | ⟨h1, h2⟩
      · left
        by_cases hl : t < i
        · rw [if_pos hl]; rwa [if_pos (by omega)] at ih
        · rw [if_neg hl]; rw [if_neg (by omega)] at ih
          have : t - i = (t - (i + 1)) + 1 := by omega
          rw [this]; simpa using ih
      · right; left; exact ⟨by omega, h2⟩
      · by_cases hl : t < i
        · right; left; exact ⟨hl, h2⟩
        · right; right
          exact ⟨by simp; omega, h2⟩

/-- A result's reading. -/
def resM (a : Act) (r : ResultVar) : Sem Value := match r with
  | .tmp t => pure (a.tmps.getD t undef)
  | .cell t ty => do loadVar ty (← asAddr (a.tmps.getD t undef))

theorem load_run {P : Program} {w : World} {h : AHeap} {β : Pl} {e : Env} {a : Act} (G : Good P h β w e a.tmps) {t : Nat} {ty : TypeId} {n : Option Nat} (hn : aggN P ty = some n) {av : AVal} {h' : AHeap} (he : aop e h (.load n (.tmp t)) = some (av, h')) :
    ∃ v, (resM a (.cell t ty)).run P w = .ok v w ∧ vrel h β av v := by
  obtain ⟨w1, β1, hrun, _, _⟩ := sim_load (o := { dst := none, op := .load ty (.tmp t), type := 0, pos := "", after := #[], guard := none }) G rfl hn (x := .tmp t) rfl he
  simp only [aop, opMov, opPick, opAlloc, opBox, opBuild, opBuildSlice, opLoad, opStore, opNilCheck, opBin, opEql, opUn, opConv, opB2s, opMkIface, opMkFn, opMkMap, opMkSlice, opSlice, opFieldAddr, opField, opIdxS, opIdxA, opIndex, opIndexStr, opLookup, opMapUpd, opAssertT, opExtract, opLenS, opLenT, opLenM, opMin, opMax, opAppend, opCopy, opDelete, opd] at he
  have rx := G.env t
  split at he
  · rename_i id g off hh
    have rx' := rx
    rw [hh] at rx
    simp only [vrel] at rx
    obtain ⟨ad, ev, hp1, hp2, hp3⟩ := rx
    rw [if_pos hp1] at he
    simp only [aggN, isAggT, Option.bind_eq_some_iff, Option.map_eq_some_iff] at hn
    obtain ⟨b, ⟨d, hd, hb⟩, hn⟩ := hn
    have hagg : (isAgg ty).run P w = .ok b w := by
      unfold isAgg
      simp only [Sem.run_bind, run_underlying_of hd, Result.andThen_ok]
      subst hb
      cases d <;> rfl
    split at he
    · simp only [Option.bind_eq_some_iff] at he
      obtain ⟨cs, hrd, he⟩ := he
      split at he
      · rename_i v
        simp only [Option.some.injEq, Prod.mk.injEq] at he
        obtain ⟨rfl, rfl⟩ := he
        have hbf : b = false := by
          cases b
          · rfl
          · rw [if_pos rfl] at hn; simp only [Option.map_eq_some_iff] at hn; obtain ⟨_, _, h2⟩ := hn; cases h2
        subst hbf
        obtain ⟨hg, vs, hvs, hvl, _, hc⟩ := read_at G.rel hp1 hrd
        obtain ⟨v', ws, rfl, hv', _⟩ := vrels_cons.1 hvs
        have h0 := hc 0 v' rfl
        have ha := hp3 hg
        subst ha
        have h0' : w.cell? ⟨(β id).b, (β id).o + off, none⟩ = some v' := by simpa [Addr.add] using h0
        exact ⟨v', by simp [resM, ev, asAddr, loadVar, hagg, h0'], hv'⟩
      · simp at he
    · rename_i m
      simp only [Option.map_eq_some_iff, Prod.mk.injEq] at he
      obtain ⟨cs, hrd, rfl, rfl⟩ := he
      have hbt : b = true ∧ sizeT P ty = some m := by
        cases b
        · simp at hn
        · rw [if_pos rfl] at hn; simp only [Option.map_eq_some_iff] at hn; obtain ⟨k, h1, h2⟩ := hn; cases h2; exact ⟨rfl, h1⟩
      obtain ⟨rfl, hsz⟩ := hbt
      simp only [sizeT, Option.map_eq_some_iff] at hsz
      obtain ⟨ti, hti, hsz⟩ := hsz
      obtain ⟨hg, vs, hvs, hvl, _, hc⟩ := read_at G.rel hp1 hrd
      have ha := hp3 hg
      subst ha
      have hld := run_loadCells_list (P := P) w ⟨(β id).b, (β id).o + off, none⟩ vs hc
      rw [hvl] at hld
      exact ⟨.agg vs.toArray, by simp [resM, ev, asAddr, loadVar, hagg, run_sizeOf_of hti, hsz, hld], by simp only [vrel]; exact ⟨_, rfl, by simpa using hvs⟩⟩
  · simp at he

theorem resVals_run {P : Program} {w : World} {β : Pl} {s : St} {a : Act} (G : Good P s.h β w s.e a.tmps) : ∀ {rs : List ResultVar} {ars : List AResVar} {vs : List AVal}, cRes P rs = some ars → resVals s ars = some vs →
    ∃ xs : List Value, vrels s.h β vs xs ∧ (rs.mapM (resM a)).run P w = .ok xs w
  | [], ars, vs, hc, he => by
    simp only [cRes, Option.some.injEq] at hc
    subst hc
    simp only [resVals, Option.some.injEq] at he
    subst he
    exact ⟨[], by simp [vrels], rfl⟩
  | .tmp t :: rs, ars, vs, hc, he => by
    simp only [cRes, Option.map_eq_some_iff] at hc
    obtain ⟨ars', hc', rfl⟩ := hc
    simp only [resVals, resVal, Option.bind_eq_some_iff, Option.map_eq_some_iff, Option.some.injEq] at he
    obtain ⟨v, rfl, vs', he', rfl⟩ := he
    obtain ⟨xs, hx, hr⟩ := resVals_run G hc' he'
    refine ⟨_ :: xs, vrels_cons_cons.2 ⟨G.env t, hx⟩, ?_⟩
    simp only [List.mapM_cons, Sem.run_bind, resM, Sem.run_pure, Result.andThen_ok, hr]
  | .cell t ty :: rs, ars, vs, hc, he => by
    simp only [cRes, Option.bind_eq_some_iff, Option.map_eq_some_iff] at hc
    obtain ⟨n, hn, ars', hc', rfl⟩ := hc
    simp only [resVals, resVal, Option.bind_eq_some_iff, Option.map_eq_some_iff, Prod.exists] at he
    obtain ⟨v, ⟨v1, h1, ha, rfl⟩, vs', he', rfl⟩ := he
    obtain ⟨xs, hx, hr⟩ := resVals_run G hc' he'
    obtain ⟨v', hl, hv⟩ := load_run G hn ha
    refine ⟨v' :: xs, vrels_cons_cons.2 ⟨hv, hx⟩, ?_⟩
    simp only [List.mapM_cons, Sem.run_bind, hl, Result.andThen_ok, hr, Sem.run_pure]

theorem results_run {P : Program} {w : World} {β : Pl} {s : St} {a : Act} (G : Good P s.h β w s.e a.tmps) {fn : Func} {ars : List AResVar} {v : AVal} (hc : cRes P fn.results.toList = some ars) (he : resOf s ars = some v) :
    ∃ x, (results fn a.tmps).run P w = .ok x w ∧ vrel s.h β v x := by
  simp only [resOf, Option.map_eq_some_iff] at he
  obtain ⟨vs, hvs, hv⟩ := he
  obtain ⟨xs, hx, hr⟩ := resVals_run G hc hvs
  have hm : (fn.results.mapM (resM a)).run P w = .ok xs.toArray w := by
    rw [Array.mapM_eq_mapM_toList]
    simp only [Sem.run_bind, Sem.run_map, hr, Result.andThen_ok]
  have hres : (results fn a.tmps).run P w = .ok (if h : xs.toArray.size = 1 then xs.toArray[0] else .tuple xs.toArray) w := by
    show (Sem.run P (fn.results.mapM (resM a) >>= fun vs => pure (if h : vs.size = 1 then vs[0] else .tuple vs)) w) = _
    rw [Sem.run_bind, hm]
    rfl
  refine ⟨_, hres, ?_⟩
  have hl := vrels_length hx
  split at hv
  · rename_i u
    obtain ⟨x, ws, rfl, h1, h2⟩ := vrels_cons.1 hx
    rw [vrels_nil] at h2
    subst h2
    subst hv
    simpa using h1
  · rename_i hne
    have : ¬ xs.toArray.size = 1 := by
      intro h1
      simp at h1
      rw [hl] at h1
      match vs, h1 with
      | [u], _ => exact hne u rfl
    rw [dif_neg this]
    subst hv
    simp only [vrel]
    exact ⟨_, rfl, by simpa using hx⟩

/-- What is put off does as the model's does. -/
def SoundLate (P : Program) (r : Rec) : Prop :=
  ∀ f args pan h h', r.late f args pan h = some h' → (∃ fn, P.funcs[f]? = some fn ∧ (fn.name == "runtime.NumGoroutine") = false ∧ fn.body.isNone = false) ∧ ∀ β w (vs : Array Value) (u : FrameMode), Rel h β w → h.g = P.globals.size → vrels h β args vs.toList →
    (match pan with
     | none => u = .returning
     | some v => ∃ x, u = .panicking [{ v := x, recovered := false }] ∧ vrel h β v x) →
    CallsD P f vs u w fun e u' w' => (∃ v, e = .returned v) ∧ settle u' = .returning ∧ ∃ β', Rel h' β' w' ∧ Ext h β w h' β' w'

theorem good_enter {P : Program} {h : AHeap} {β : Pl} {w : World} {args : List AVal} {vs : Array Value} (R : Rel h β w) (hg : h.g = P.globals.size) (hv : vrels h β args vs.toList) (n : Nat) :
    Good P h β w (envOf 0 args) (vs ++ Array.replicate (n - vs.size) undef) := by
  have hvl := vrels_length hv
  refine ⟨R, fun t => ?_, hg⟩
  have := envOf_val 0 hv t
  rw [if_neg (Nat.not_lt_zero t)] at this
  simp only [Nat.sub_zero] at this
  rcases this with this | ⟨h1, _⟩ | ⟨h1, h2⟩
  · by_cases hl : t < vs.size
    · have e : (vs ++ Array.replicate (n - vs.size) undef).getD t undef = vs.toList.getD t undef := by
        simp [Array.getD_eq_getD_getElem?, Array.getElem?_append, hl, List.getD]
      rw [e]; exact this
    · have e : (vs ++ Array.replicate (n - vs.size) undef).getD t undef = undef := by
        simp only [Array.getD_eq_getD_getElem?, Array.getElem?_append, hl, if_false, Array.getElem?_replicate]
        split <;> rfl
      rw [e]
      have e2 : vs.toList.getD t undef = undef := by
        simp [List.getD, hl]
      rwa [e2] at this
  · omega
  · rw [h2]; simp [vrel]

theorem deferOp_of {o : Oper} {x : Operand} (h : deferOp o = some x) : ∃ c, o.op = .defer c ∧ o.guard = none ∧ o.dst = none ∧ c.callee = .value x ∧ c.args = #[] := by
  unfold deferOp at h
  split at h
  · rename_i c h1 h2 h3
    split at h
    · rename_i y h4 h5
      simp only [Option.some.injEq] at h
      subst h
      exact ⟨c, h1, h2, h3, h4, by simpa using h5⟩
    · simp at h
  · simp at h

theorem split_of {os init : List Oper} {x : Operand} (h : splitDefer os = some (init, x)) : ∃ o, os = init ++ [o] ∧ deferOp o = some x := by
  unfold splitDefer at h
  split at h
  · rename_i o ho
    simp only [Option.map_eq_some_iff, Prod.mk.injEq] at h
    obtain ⟨y, hy, rfl, rfl⟩ := h
    obtain ⟨ys, rfl⟩ := List.getLast?_eq_some_iff.1 ho
    exact ⟨o, by simp, hy⟩
  · simp at h

/-- Up to where a call is put off, and on from there. -/
theorem sim_late {P : Program} {r : Rec} {n : Nat} (SC : SoundCall P r) (SL : SoundLoop P n r) {N : Nat} (hfol : P.follows .mixedOrders = true) : ∀ (mc : Code) (p : ACode) (x : AOpd) (t : ACode), cLate P N mc = some (p, x, t) →
    ∀ (s : St) (x1 : AExit) (s1 : St), ex r p s = some (x1, s1) → (x1 = .normal → ∃ g first captured, opd s1.e x = .fn (.func g) first captured) → ∀ (β : Pl) (w : World) (a : Act), Good P s.h β w s.e a.tmps → N ≤ a.tmps.size → ∀ (Q : Exit → Act → World → Prop),
      (x1 ≠ .normal → ∀ e a' w', Fin P N s.h β w a.defers x1 s1 e a' w' → Q e a' w') →
      (x1 = .normal → ∀ (mt : Code), cCode P N mt = some t → ∀ (β1 : Pl) (w1 : World) (a1 : Act) (g : FuncId) (first captured : List AVal) (fv cv : Array Value), opd s1.e x = .fn (.func g) first captured → vrels s1.h β1 first fv.toList → vrels s1.h β1 captured cv.toList →
        Good P s1.h β1 w1 s1.e a1.tmps → N ≤ a1.tmps.size → Ext s.h β w s1.h β1 w1 → a1.defers = { target := .fn (.func g) cv, args := fv ++ #[] } :: a.defers → mt.wpIn (fen none) 0 P Q a1 w1) →
      mc.wpIn (fen none) 0 P Q a w := by
  intro mc
  induction mc with
  | seq ca cb iha ihb =>
    intro p x t hc s x1 s1 he hx β w a G hN Q hQ1 hQ2
    -- a plain part, and on
    have plainly : ∀ {pa pb : ACode}, cCode P N ca = some pa → cLate P N cb = some (pb, x, t) → p = .seq pa pb → (Code.seq ca cb).wpIn (fen none) 0 P Q a w := by
      intro pa pb hpa hpb hp
      subst hp
      simp only [ex] at he
      refine wpIn_seq ?_
      cases hp1 : ex r pa s with
      | none => rw [hp1] at he; simp at he
      | some y =>
        obtain ⟨x2, s2⟩ := y
        rw [hp1] at he
        refine sim_code SC SL hfol ca pa hpa s x2 s2 hp1 β w a G hN _ ?_
        intro e a2 w2 F
        cases x2 with
        | normal =>
          simp only at he
          obtain ⟨β2, G2, X2, hd2, hN2, hx2⟩ := F
          simp only [exitRel] at hx2
          subst hx2
          simp only [Exit.then]
          refine ihb pb x t hpb s2 x1 s1 he hx β2 w2 a2 G2 hN2 Q (fun hn e a' w' F2 => hQ1 hn e a' w' (by rw [hd2] at F2; exact F2.trans X2)) ?_
          intro hn mt hmt β1 w1 a1 g first captured fv cv h1 h2 h3 h4 h5 h6 h7
          exact hQ2 hn mt hmt β1 w1 a1 g first captured fv cv h1 h2 h3 h4 h5 (X2.trans h6) (by rw [h7, hd2])
        | exit id =>
          simp only [Option.some.injEq, Prod.mk.injEq] at he
          obtain ⟨rfl, rfl⟩ := he
          have F' := F
          obtain ⟨β1, G1, X1, hd1, hN1, hx1⟩ := F
          simp only [exitRel] at hx1
          subst hx1
          exact hQ1 (by intro h; cases h) _ _ _ F'
        | ret =>
          simp only [Option.some.injEq, Prod.mk.injEq] at he
          obtain ⟨rfl, rfl⟩ := he
          have F' := F
          obtain ⟨β1, G1, X1, hd1, hN1, hx1⟩ := F
          simp only [exitRel] at hx1
          subst hx1
          exact hQ1 (by intro h; cases h) _ _ _ F'
        | panic v =>
          simp only [Option.some.injEq, Prod.mk.injEq] at he
          obtain ⟨rfl, rfl⟩ := he
          have F' := F
          obtain ⟨β1, G1, X1, hd1, hN1, v', hx1, _⟩ := F
          subst hx1
          exact hQ1 (by intro h; cases h) _ _ _ F'
    cases ca with
    | region id ops draw =>
      cases draw with
      | true =>
        simp only [cLate, Option.bind_eq_some_iff, Option.map_eq_some_iff, Prod.exists, Prod.mk.injEq] at hc
        obtain ⟨pa, hpa, pb, x', t', hpb, rfl, rfl, rfl⟩ := hc
        exact plainly hpa hpb rfl
      | false =>
        simp only [cLate] at hc
        split at hc
        · rename_i init xo hsp
          simp only [Option.bind_eq_some_iff, Option.map_eq_some_iff, Prod.mk.injEq] at hc
          obtain ⟨is, his, x', hx', t', ht', rfl, rfl, rfl⟩ := hc
          obtain ⟨od, hos, hod⟩ := split_of hsp
          obtain ⟨c, ho1, ho2, ho3, ho4, ho5⟩ := deferOp_of hod
          simp only [ex] at he
          refine wpIn_seq (wpIn_region ?_)
          have hsz : ops.size = init.length + 1 := by
            have : ops.toList.length = init.length + 1 := by rw [hos]; simp
            simpa using this
          have hget : ∀ (j : Nat) (o : Oper), init[j]? = some o → ops[0 + j]? = some o := by
            intro j o h
            have hj : j < init.length := (List.getElem?_eq_some_iff.1 h).1
            have : ops.toList[j]? = some o := by rw [hos, List.getElem?_append_left hj]; exact h
            simpa using this
          have hlast : ops[init.length]? = some od := by
            have : ops.toList[init.length]? = some od := by rw [hos]; simp
            simpa using this
          have hr : List.range ops.size = List.range' 0 init.length ++ [init.length] := by
            rw [hsz, List.range_succ, List.range_eq_range']
          rw [hr]
          refine sim_instrs (ρ := none) SC init is 0 hget his s x1 s1 he β w a G hN ?_ ?_
          · rintro rfl a' w' ⟨β1, G1, X1, hd1, hN1, _⟩
            obtain ⟨g, first, captured, hfn⟩ := hx rfl
            have rf := opd_vrel G1 hx'
            rw [hfn] at rf
            simp only [vrel] at rf
            obtain ⟨fv, cv, efv, rfirst, rcap⟩ := rf
            simp only [wpOpsIn, hlast]
            have hw : Region.wanted od (yielded ops a'.tmps) = true := by simp [Region.wanted, ho2]
            rw [if_pos hw]
            refine ⟨fun _ _ => trivial, ?_⟩
            have hrun : (Oper.semAt (fen none).round a'.eval od).run P w' = .ok (.defer { target := .fn (.func g) cv, args := fv ++ #[] }) w' := by
              show (execOp a'.eval od).run P w' = _
              unfold execOp
              rw [ho1]
              simp only [resolve, ho4, ho5, efv, Deferred.ofValue, Sem.run_bind, Sem.run_pure, Result.andThen_ok, Array.map_empty]
            rw [hrun, Oper.uponIn_defer, ho3]
            simp only [Exit.then, Act.put]
            exact hQ2 rfl cb ht' β1 w' _ g first captured fv cv hfn rfirst rcap ⟨G1.rel, G1.env, G1.g⟩ hN1 X1 (by simp [hd1])
          · intro hn ex' a' w' F
            cases x1 with
            | normal => exact absurd rfl hn
            | exit id =>
              have F' := F
              obtain ⟨β1, G1, X1, hd1, hN1, hx1⟩ := F
              simp only [exitRel] at hx1
              subst hx1
              exact hQ1 (by intro h; cases h) _ _ _ F'
            | ret =>
              have F' := F
              obtain ⟨β1, G1, X1, hd1, hN1, hx1⟩ := F
              simp only [exitRel] at hx1
              subst hx1
              exact hQ1 (by intro h; cases h) _ _ _ F'
            | panic v =>
              have F' := F
              obtain ⟨β1, G1, X1, hd1, hN1, v', hx1, _⟩ := F
              subst hx1
              exact hQ1 (by intro h; cases h) _ _ _ F'
        · simp only [Option.bind_eq_some_iff, Option.map_eq_some_iff, Prod.exists, Prod.mk.injEq] at hc
          obtain ⟨pa, hpa, pb, x', t', hpb, rfl, rfl, rfl⟩ := hc
          exact plainly hpa hpb rfl
    | _ =>
      simp only [cLate, Option.bind_eq_some_iff, Option.map_eq_some_iff, Prod.exists, Prod.mk.injEq] at hc
      obtain ⟨pa, hpa, pb, x', t', hpb, rfl, rfl, rfl⟩ := hc
      exact plainly hpa hpb rfl
  | _ => intro p x t hc; simp [cLate] at hc

theorem sim_call {P : Program} {AP : AProg} (ok : ProgOk P AP) {r : Rec} {n : Nat} (SC : SoundCall P r) (SL : SoundLoop P n r) (ST : SoundLate P r) : SoundCall P { code := ex r, call := callF AP r, late := lateF AP r } := by
  intro f args h res h' he
  simp only [callF] at he
  split at he
  · simp at he
  · rename_i afn hf
    obtain ⟨fn, q1, q2, q3⟩ := ok.fn f afn hf
    simp only [cFun, Option.bind_eq_some_iff] at q3
    obtain ⟨c, hbody, ars, hars, q3⟩ := q3
    refine ⟨⟨fn, q1, q2, by rw [hbody]; rfl⟩, ?_⟩
    intro β w vs R hg hv
    have G := good_enter R hg hv fn.ntmps
    have hN : fn.ntmps ≤ (vs ++ Array.replicate (fn.ntmps - vs.size) undef).size := by simp; omega
    split at q3
    · -- no call is put off
      rename_i b hb
      simp only [Option.some.injEq] at q3
      subst q3
      simp only at he
      refine calls_of_wp q1 hbody (wpIn_wide (n := 0).1 ?_)
      cases hx : ex r b { e := envOf 0 args, h := h } with
      | none => rw [hx] at he; simp at he
      | some y =>
        obtain ⟨x, s'⟩ := y
        rw [hx] at he
        refine sim_code (ρ := none) SC SL ok.fol c b hb _ x s' hx β w { tmps := vs ++ Array.replicate (fn.ntmps - vs.size) undef, defers := [] } G hN _ ?_
        intro e a' w' F
        obtain ⟨β1, G1, X1, hd1, hN1, hx1⟩ := F
        cases x with
        | normal =>
          simp only [Option.map_eq_some_iff, Prod.mk.injEq] at he
          obtain ⟨v, hv', rfl, rfl⟩ := he
          simp only [exitRel] at hx1
          subst hx1
          obtain ⟨xv, hxr, hxv⟩ := results_run G1 hars hv'
          exact ⟨hd1, xv, hxr, β1, G1.rel, X1, xv, rfl, hxv⟩
        | ret =>
          simp only [Option.map_eq_some_iff, Prod.mk.injEq] at he
          obtain ⟨v, hv', rfl, rfl⟩ := he
          simp only [exitRel] at hx1
          subst hx1
          obtain ⟨xv, hxr, hxv⟩ := results_run G1 hars hv'
          exact ⟨hd1, xv, hxr, β1, G1.rel, X1, xv, rfl, hxv⟩
        | exit id => simp at he
        | panic v =>
          simp only [Option.some.injEq, Prod.mk.injEq] at he
          obtain ⟨rfl, rfl⟩ := he
          obtain ⟨xv, hx2, hxv⟩ := hx1
          subst hx2
          exact ⟨hd1, β1, G1.rel, X1, xv, rfl, hxv⟩
    · split at q3
      · -- a call is put off
        rename_i p x t hl
        simp only [Option.some.injEq] at q3
        subst q3
        simp only at he
        refine calls_of_wp_defers q1 hbody (wpIn_wide (n := 0).1 ?_)
        -- the end, with the call that was put off
        have fin : ∀ (g : FuncId) (first captured : List AVal) (fv cv : Array Value) (β1 : Pl) (w1 : World) (s2 : St) (β2 : Pl) (a2 : Act) (w2 : World) (pan : Option AVal) (u : FrameMode) (s1h : AHeap),
            Good P s2.h β2 w2 s2.e a2.tmps → Ext h β w s2.h β2 w2 → a2.defers = [{ target := .fn (.func g) cv, args := fv ++ #[] }] → vrels s1h β1 first fv.toList → vrels s1h β1 captured cv.toList → HExt s1h β1 s2.h β2 →
            u ≠ .run → (match pan with
              | none => u = .returning
              | some v => ∃ x, u = .panicking [{ v := x, recovered := false }] ∧ vrel s2.h β2 v x) →
            ((r.late g (first ++ captured) pan s2.h).bind fun h3 => (resOf { s2 with h := h3 } ars).map fun v => (ARes.ret v, h3)) = some (res, h') →
            Leaves P fn a2.tmps (fun e w' => ∃ β', Rel h' β' w' ∧ Ext h β w h' β' w' ∧ resRel h' β' res e) a2.defers u w2 := by
          intro g first captured fv cv β1 w1 s2 β2 a2 w2 pan u s1h G2 X2 hd2 r1 r2 hx12 hu hpan hl
          simp only [Option.bind_eq_some_iff, Option.map_eq_some_iff, Prod.mk.injEq] at hl
          obtain ⟨h3, hlt, v, hv', rfl, rfl⟩ := hl
          obtain ⟨⟨gn, g1, g2, g3⟩, hlate⟩ := ST _ _ _ _ _ hlt
          rw [hd2]
          refine leaves_cons hu (f := g) (args := (fv ++ #[]) ++ cv) ?_ ?_
          · simp only [invoke, run_callFunc_of g1 g2 g3]
          · refine (hlate β2 w2 ((fv ++ #[]) ++ cv) u G2.rel G2.g ?_ hpan).mono ?_
            · simp only [Array.append_empty, Array.toList_append]
              exact vrels_append (vrels.mono hx12 r1) (vrels.mono hx12 r2)
            · rintro e u' w' ⟨⟨xv, rfl⟩, hset, β3, R3, X3⟩
              simp only
              rw [hset]
              have G3 : Good P h3 β3 w' s2.e a2.tmps := ⟨R3, fun t => vrel.mono X3.ext (G2.env t), by rw [X3.gl]; exact G2.g⟩
              obtain ⟨rv, hrr, hrv⟩ := results_run (s := { s2 with h := h3 }) (a := a2) G3 hars hv'
              exact ⟨rv, hrr, β3, R3, X2.trans X3, rv, rfl, hrv⟩
        cases hx : ex r p { e := envOf 0 args, h := h } with
        | none => rw [hx] at he; simp at he
        | some y =>
          obtain ⟨x1, s1⟩ := y
          rw [hx] at he
          refine sim_late SC SL ok.fol c p x t hl _ x1 s1 hx ?_ β w { tmps := vs ++ Array.replicate (fn.ntmps - vs.size) undef, defers := [] } G hN _ ?_ ?_
          · rintro rfl
            simp only at he
            split at he
            · rename_i g first captured hfn
              exact ⟨g, first, captured, hfn⟩
            · simp at he
          · intro hn e a' w' F
            obtain ⟨β1, G1, X1, hd1, hN1, hx1⟩ := F
            cases x1 with
            | normal => exact absurd rfl hn
            | ret =>
              simp only [Option.map_eq_some_iff, Prod.mk.injEq] at he
              obtain ⟨v, hv', rfl, rfl⟩ := he
              simp only [exitRel] at hx1
              subst hx1
              obtain ⟨xv, hxr, hxv⟩ := results_run G1 hars hv'
              simp only [bodyPostD, hd1]
              exact ⟨xv, hxr, β1, G1.rel, X1, xv, rfl, hxv⟩
            | exit id => simp at he
            | panic v =>
              simp only [Option.some.injEq, Prod.mk.injEq] at he
              obtain ⟨rfl, rfl⟩ := he
              obtain ⟨xv, hx2, hxv⟩ := hx1
              subst hx2
              simp only [bodyPostD, hd1]
              exact ⟨β1, G1.rel, X1, xv, rfl, hxv⟩
          · rintro rfl mt hmt β1 w1 a1 g first captured fv cv hfn r1 r2 G1 hN1 X1 hd1
            simp only [hfn] at he
            cases hx2 : ex r t s1 with
            | none => rw [hx2] at he; simp at he
            | some y2 =>
              obtain ⟨x2, s2⟩ := y2
              rw [hx2] at he
              refine sim_code (ρ := none) SC SL ok.fol mt t hmt _ x2 s2 hx2 β1 w1 a1 G1 hN1 _ ?_
              rintro e a2 w2 ⟨β2, G2, X2, hd2, hN2, hx2'⟩
              cases x2 with
              | normal =>
                simp only [exitRel] at hx2'
                subst hx2'
                exact fin g first captured fv cv β1 w1 s2 β2 a2 w2 none .returning s1.h G2 (X1.trans X2) (by rw [hd2, hd1]) r1 r2 X2.ext (by intro h; cases h) rfl he
              | ret =>
                simp only [exitRel] at hx2'
                subst hx2'
                exact fin g first captured fv cv β1 w1 s2 β2 a2 w2 none .returning s1.h G2 (X1.trans X2) (by rw [hd2, hd1]) r1 r2 X2.ext (by intro h; cases h) rfl he
              | exit id => simp at he
              | panic v =>
                obtain ⟨xv, hx3, hxv⟩ := hx2'
                subst hx3
                exact fin g first captured fv cv β1 w1 s2 β2 a2 w2 (some v) (.panicking [{ v := xv, recovered := false }]) s1.h G2 (X1.trans X2) (by rw [hd2, hd1]) r1 r2 X2.ext (by intro h; cases h) ⟨xv, rfl, hxv⟩ he
      · simp only [Option.map_eq_some_iff, Prod.exists] at q3
        obtain ⟨d, b, _, rfl⟩ := q3
        simp at he

/-- Operations that call nothing, where the frames below may have turned. -/
theorem sim_plainS {P : Program} {r : Rec} {N : Nat} {ops : Array Oper} {Q : Exit → Act → List Frame → World → Prop} {cs : List Frame} : ∀ (os : List Oper) (is : List AInstr) (k : Nat), (∀ (j : Nat) (o : Oper), os[j]? = some o → ops[k + j]? = some o) → cInstrs P N ops os = some is → is.all AInstr.plain = true →
    ∀ (s : St) (x : AExit) (s' : St), exIs r is s = some (x, s') → ∀ (β : Pl) (w : World) (a : Act), Good P s.h β w s.e a.tmps → N ≤ a.tmps.size →
      (x = .normal → ∀ a' w', Fin P N s.h β w a.defers .normal s' .normal a' w' → Q .normal a' cs w') → wpOpsS P ops Q (List.range' k os.length) a cs w
  | [], is, k, hd, hc, hp, s, x, s', he, β, w, a, G, hN, hT => by
    simp only [cInstrs, Option.some.injEq] at hc
    subst hc
    simp only [exIs, Option.some.injEq, Prod.mk.injEq] at he
    obtain ⟨rfl, rfl⟩ := he
    simp only [List.length_nil, List.range'_zero, wpOpsS]
    exact hT rfl _ _ ⟨β, G, Ext.refl _ _ _, rfl, hN, rfl⟩
  | o :: os, is, k, hd, hc, hp, s, x, s', he, β, w, a, G, hN, hT => by
    simp only [cInstrs, Option.bind_eq_some_iff, Option.map_eq_some_iff] at hc
    obtain ⟨i, hi, is', hc', rfl⟩ := hc
    simp only [List.all_cons, Bool.and_eq_true] at hp
    have hdrop : ∀ (j : Nat) (o' : Oper), os[j]? = some o' → ops[(k + 1) + j]? = some o' := fun j o' h => by
      have := hd (j + 1) o' (by simpa using h)
      rwa [show k + (j + 1) = (k + 1) + j by omega] at this
    have hok : ops[k]? = some o := by simpa using hd 0 o rfl
    obtain ⟨c1, c2, c3, c4, c5⟩ := cInstr_parts hi
    simp only [List.length_cons, List.range'_succ, wpOpsS, hok]
    simp only [exIs] at he
    cases hw : wanted s.e i.guard with
    | none => simp only [hw] at he; simp at he
    | some wb =>
      simp only [hw] at he
      have hwd := wanted_of G c4 hN c5 hw rfl
      have hdN : ∀ d, o.dst = some d → d < N := fun d h => c2 d (by rw [c1]; exact h)
      cases wb with
      | false =>
        rw [if_neg (by rw [hwd]; simp)]
        simp only at he
        obtain ⟨G', hN', hds⟩ := put_good (dst := o.dst) (av := .tup []) (v := undef) G G.rel (Ext.refl _ _ _) hN hdN (by simp [vrel, vrels, undef])
        exact sim_plainS os is' (k + 1) hdrop hc' hp.2 _ x s' (by rw [c1] at he; exact he) β w _ G' hN' (fun hx a' w' F => hT hx a' w' (by rw [hds] at F; exact F))
      | true =>
        rw [if_pos hwd]
        simp only at he
        have hpl := hp.1
        unfold AInstr.plain at hpl
        split at hpl
        · rename_i op hop
          simp only [hop] at he
          rw [hop] at c3
          split at he
          · rename_i av h1 ha
            obtain ⟨w1, β1, hrun, R1, X1⟩ := sim_op G (cOp_plain c3) ha
            rcases hrun with ⟨v, hrun, hv⟩ | ⟨hrun, hav⟩
            · rw [hrun]
              simp only [Oper.upon_value]
              obtain ⟨G', hN', hds⟩ := put_good (dst := o.dst) (av := av) (v := v) G R1 X1 hN hdN hv
              exact sim_plainS os is' (k + 1) hdrop hc' hp.2 _ x s' (by rw [c1] at he; exact he) β1 w1 _ G' hN' (fun hx a' w' F => hT hx a' w' (by rw [hds] at F; exact F.trans X1))
            · rw [hrun]
              simp only [Oper.upon_skip]
              obtain ⟨G', hN', hds⟩ := put_good (dst := o.dst) (av := av) (v := undef) G R1 X1 hN hdN (by rw [hav]; simp [vrel])
              exact sim_plainS os is' (k + 1) hdrop hc' hp.2 _ x s' (by rw [c1] at he; exact he) β1 w1 _ G' hN' (fun hx a' w' F => hT hx a' w' (by rw [hds] at F; exact F.trans X1))
          · simp at he
        · cases hpl

theorem isRecover_of {o : Oper} (h : isRecover o = true) : ∃ c, o.op = .call c ∧ o.guard = none ∧ c.callee = .builtin .recover := by
  unfold isRecover at h
  split at h
  · rename_i c h1 h2
    split at h
    · rename_i h3; exact ⟨c, h1, h2, h3⟩
    · cases h
  · cases h

theorem sim_rcv {P : Program} {AP : AProg} (ok : ProgOk P AP) {r : Rec} {n : Nat} (SC : SoundCall P r) (SL : SoundLoop P n r) : SoundLate P { code := ex r, call := callF AP r, late := lateF AP r } := by
  intro f args pan h h' he
  simp only [lateF] at he
  split at he
  · simp at he
  · rename_i afn hf
    obtain ⟨fn, q1, q2, q3⟩ := ok.fn f afn hf
    simp only [cFun, Option.bind_eq_some_iff] at q3
    obtain ⟨c, hbody, ars, hars, q3⟩ := q3
    refine ⟨⟨fn, q1, q2, by rw [hbody]; rfl⟩, ?_⟩
    intro β w vs u R hg hv hu
    have G := good_enter R hg hv fn.ntmps
    have hN : fn.ntmps ≤ (vs ++ Array.replicate (fn.ntmps - vs.size) undef).size := by simp; omega
    split at q3
    · simp only [Option.some.injEq] at q3
      subst q3
      simp at he
    · split at q3
      · simp only [Option.some.injEq] at q3
        subst q3
        simp at he
      · simp only [Option.map_eq_some_iff, Prod.exists] at q3
        obtain ⟨d, b, hr, rfl⟩ := q3
        simp only at he
        -- the code
        unfold cRcv at hr
        split at hr
        · rename_i id ops cb _ _
          split at hr
          · rename_i o os hops
            split at hr
            · rename_i hcond
              simp only [Option.bind_eq_some_iff] at hr
              obtain ⟨is, his, hr⟩ := hr
              split at hr
              · rename_i hpl
                simp only [Option.map_eq_some_iff, Prod.mk.injEq] at hr
                obtain ⟨t, ht, rfl, rfl⟩ := hr
                obtain ⟨cc, ho1, ho2, ho3⟩ := isRecover_of hcond.1
                have hdN : ∀ dd, o.dst = some dd → dd < fn.ntmps := by
                  intro dd hdd
                  have := hcond.2
                  rw [hdd] at this
                  simpa [dstOk] using this
                refine callsD_of_wpS q1 hbody fun c₀ cs hmode => ?_
                refine wpS_seq (wpS_region ?_)
                have hsz : ops.size = os.length + 1 := by
                  have : ops.toList.length = os.length + 1 := by rw [hops]; simp
                  simpa using this
                have h0 : ops[0]? = some o := by
                  have : ops.toList[0]? = some o := by rw [hops]; rfl
                  simpa using this
                have hget : ∀ (j : Nat) (o' : Oper), os[j]? = some o' → ops[1 + j]? = some o' := by
                  intro j o' h
                  have : ops.toList[1 + j]? = some o' := by rw [hops, Nat.add_comm, List.getElem?_cons_succ]; exact h
                  simpa using this
                have hrange : List.range ops.size = 0 :: List.range' 1 os.length := by
                  rw [hsz, List.range_eq_range', List.range'_succ]
                rw [hrange]
                simp only [wpOpsS, h0]
                have hw : Region.wanted o (yielded ops (vs ++ Array.replicate (fn.ntmps - vs.size) undef)) = true := by simp [Region.wanted, ho2]
                rw [if_pos hw]
                have hrun : (execOp ({ tmps := vs ++ Array.replicate (fn.ntmps - vs.size) undef, defers := [] } : Act).eval o).run P w = .ok .recover w := by
                  unfold execOp
                  rw [ho1]
                  simp only [resolve, ho3, Sem.run_bind, Sem.run_pure, Result.andThen_ok, invoke, builtin]
                rw [hrun]
                simp only
                -- what the recovering comes to
                have main : ∀ (x : Value) (u' : FrameMode), vrel h β (pan.getD .nili) x → settle u' = .returning →
                    wpOpsS P ops (Exit.thenS (cb.wpS P (bodyPostS P fn c₀ cs fun e u' w' => (∃ v, e = .returned v) ∧ settle u' = .returning ∧ ∃ β', Rel h' β' w' ∧ Ext h β w h' β' w')) (bodyPostS P fn c₀ cs fun e u' w' => (∃ v, e = .returned v) ∧ settle u' = .returning ∧ ∃ β', Rel h' β' w' ∧ Ext h β w h' β' w'))
                      (List.range' 1 os.length) (({ tmps := vs ++ Array.replicate (fn.ntmps - vs.size) undef, defers := [] } : Act).put o.dst x) ({ c₀ with mode := u' } :: cs) w := by
                  intro x u' hx hset
                  obtain ⟨G', hN', hds⟩ := put_good (N := fn.ntmps) (a := { tmps := vs ++ Array.replicate (fn.ntmps - vs.size) undef, defers := [] }) (dst := o.dst) (av := pan.getD .nili) (v := x) G G.rel (Ext.refl _ _ _) hN hdN hx
                  cases hx1 : exIs r is { e := put (envOf 0 args) o.dst (pan.getD .nili), h := h } with
                  | none => simp only [ex, hx1] at he; simp at he
                  | some y =>
                    obtain ⟨x1, s1⟩ := y
                    refine sim_plainS os is 1 hget his hpl _ x1 s1 hx1 β w _ G' hN' ?_
                    rintro rfl a1 w1 ⟨β1, G1, X1, hd1, hN1, _⟩
                    simp only [Exit.thenS]
                    simp only [ex, hx1] at he
                    refine wpS_of_wp (wpIn_wide (n := 0).1 ?_)
                    cases hx2 : ex r t s1 with
                    | none => rw [hx2] at he; simp at he
                    | some y2 =>
                      obtain ⟨x2, s2⟩ := y2
                      rw [hx2] at he
                      refine sim_code (ρ := none) SC SL ok.fol cb t ht _ x2 s2 hx2 β1 w1 a1 G1 hN1 _ ?_
                      rintro e a2 w2 ⟨β2, G2, X2, hd2, hN2, hx2'⟩
                      cases x2 with
                      | normal =>
                        simp only [Option.map_eq_some_iff] at he
                        obtain ⟨v, hv', rfl⟩ := he
                        simp only [exitRel] at hx2'
                        subst hx2'
                        obtain ⟨rv, hrr, hrv⟩ := results_run G2 hars hv'
                        exact ⟨by rw [hd2, hd1, hds], u', rfl, rv, hrr, ⟨rv, rfl⟩, hset, β2, G2.rel, X1.trans X2⟩
                      | ret =>
                        simp only [Option.map_eq_some_iff] at he
                        obtain ⟨v, hv', rfl⟩ := he
                        simp only [exitRel] at hx2'
                        subst hx2'
                        obtain ⟨rv, hrr, hrv⟩ := results_run G2 hars hv'
                        exact ⟨by rw [hd2, hd1, hds], u', rfl, rv, hrr, ⟨rv, rfl⟩, hset, β2, G2.rel, X1.trans X2⟩
                      | exit id => simp at he
                      | panic v => simp at he
                cases pan with
                | none =>
                  simp only at hu
                  subst hu
                  have hrd : recoverD (c₀ :: cs) = none := by simp [recoverD, hmode]
                  rw [hrd]
                  simp only
                  have := main .nilIface .returning (by simp [vrel]) rfl
                  have hc0 : ({ c₀ with mode := FrameMode.returning } : Frame) = c₀ := by rw [← hmode]
                  rw [hc0] at this
                  exact this
                | some v =>
                  simp only at hu
                  obtain ⟨x, rfl, hx⟩ := hu
                  have hrd : recoverD (c₀ :: cs) = some (x, { c₀ with mode := .panicking ({ v := x, recovered := true } :: []) } :: cs) := by simp [recoverD, hmode]
                  rw [hrd]
                  simp only
                  exact main x _ hx (by simp [settle])
              · simp at hr
            · simp at hr
          · simp at hr
        · simp at hr

theorem sound {P : Program} {AP : AProg} (ok : ProgOk P AP) : ∀ n, SoundCall P (run AP n) ∧ SoundLoop P n (run AP n) ∧ SoundLate P (run AP n)
  | 0 => ⟨fun f args h res h' he => by simp [run] at he, fun b s x s' he => by simp [run] at he, fun f args pan h h' he => by simp [run] at he⟩
  | n + 1 => by
    obtain ⟨SC, SL, ST⟩ := sound ok n
    refine ⟨sim_call ok SC SL ST, ?_, sim_rcv ok SC SL⟩
    intro b s x s' he N mb hb β w a G hN Q hQ ρ
    simp only [run, ex] at he
    rw [roundsIn_succ]
    cases hp1 : ex (run AP n) b s with
    | none => rw [hp1] at he; simp at he
    | some y =>
      obtain ⟨x1, s1⟩ := y
      rw [hp1] at he
      refine sim_code SC SL ok.fol mb b hb s x1 s1 hp1 β w a G hN _ ?_
      intro e a1 w1 F
      cases x1 with
      | normal =>
        simp only at he
        obtain ⟨β1, G1, X1, hd1, hN1, hx1⟩ := F
        simp only [exitRel] at hx1
        subst hx1
        simp only [Exit.then]
        exact SL b s1 x s' he N mb hb β1 w1 a1 G1 hN1 Q (fun e a' w' F2 => hQ e a' w' (by rw [hd1] at F2; exact F2.trans X1)) ρ
      | exit id =>
        simp only [Option.some.injEq, Prod.mk.injEq] at he
        obtain ⟨rfl, rfl⟩ := he
        have F' := F
        obtain ⟨β1, G1, X1, hd1, hN1, hx1⟩ := F
        simp only [exitRel] at hx1
        subst hx1
        exact hQ _ _ _ F'
      | ret =>
        simp only [Option.some.injEq, Prod.mk.injEq] at he
        obtain ⟨rfl, rfl⟩ := he
        have F' := F
        obtain ⟨β1, G1, X1, hd1, hN1, hx1⟩ := F
        simp only [exitRel] at hx1
        subst hx1
        exact hQ _ _ _ F'
      | panic v =>
        simp only [Option.some.injEq, Prod.mk.injEq] at he
        obtain ⟨rfl, rfl⟩ := he
        have F' := F
        obtain ⟨β1, G1, X1, hd1, hN1, v', hx1, _⟩ := F
        subst hx1
        exact hQ _ _ _ F'

end Go.AM
