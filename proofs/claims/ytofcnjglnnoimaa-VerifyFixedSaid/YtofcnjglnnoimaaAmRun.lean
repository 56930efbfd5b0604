/-
  AM, part 15: functions, loops, calls: whatever the machine comes to, the model comes to.
-/
import Derived.Test.YtofcnjglnnoimaaAmDraw7
namespace Go.AM
set_option linter.unusedVariables false
set_option linter.unusedSimpArgs false

/-- What is run again does as the model's loops do. -/
def SoundLoop (P : Program) (n : Nat) (r : Rec) : Prop :=
  ∀ (b : ACode) (s : St) (x : AExit) (s' : St), r.code (.loop b) s = some (x, s') → ∀ (N : Nat) (mb : Code), cCode P N mb = some b →
    ∀ (β : Pl) (w : World) (a : Act), Good P s.h β w s.e a.tmps → N ≤ a.tmps.size → ∀ (Q : Exit → Act → World → Prop), (∀ ex a' w', Fin P N s.h β w a.defers x s' ex a' w' → Q ex a' w') →
      ∀ ρ : Option Nat, Code.roundsIn (fen ρ) 0 P mb Q n a w

theorem sim_code {P : Program} {r : Rec} {n : Nat} (SC : SoundCall P r) (SL : SoundLoop P n r) {N : Nat} {ρ : Option Nat} (hfol : P.follows .mixedOrders = true) : ∀ (mc : Code) (c : ACode), cCode P N mc = some c →
    ∀ (s : St) (x : AExit) (s' : St), ex r c s = some (x, s') → ∀ (β : Pl) (w : World) (a : Act), Good P s.h β w s.e a.tmps → N ≤ a.tmps.size →
      ∀ (Q : Exit → Act → World → Prop), (∀ e a' w', Fin P N s.h β w a.defers x s' e a' w' → Q e a' w') → mc.wpIn (fen ρ) 0 P Q a w := by
  intro mc
  induction mc with
  | skip =>
    intro c hc s x s' he β w a G hN Q hQ
    simp only [cCode, Option.some.injEq] at hc
    subst hc
    simp only [ex, Option.some.injEq, Prod.mk.injEq] at he
    obtain ⟨rfl, rfl⟩ := he
    exact wpIn_skip (hQ _ _ _ ⟨β, G, Ext.refl _ _ _, rfl, hN, rfl⟩)
  | exit id =>
    intro c hc s x s' he β w a G hN Q hQ
    simp only [cCode, Option.some.injEq] at hc
    subst hc
    simp only [ex, Option.some.injEq, Prod.mk.injEq] at he
    obtain ⟨rfl, rfl⟩ := he
    exact wpIn_exit (hQ _ _ _ ⟨β, G, Ext.refl _ _ _, rfl, hN, rfl⟩)
  | ret =>
    intro c hc s x s' he β w a G hN Q hQ
    simp only [cCode, Option.some.injEq] at hc
    subst hc
    simp only [ex, Option.some.injEq, Prod.mk.injEq] at he
    obtain ⟨rfl, rfl⟩ := he
    exact wpIn_ret (hQ _ _ _ ⟨β, G, Ext.refl _ _ _, rfl, hN, rfl⟩)
  | region id ops draw =>
    intro c hc s x s' he β w a G hN Q hQ
    simp only [cCode] at hc
    split at hc
    · rename_i hd
      subst hd
      simp only [Option.map_eq_some_iff] at hc
      obtain ⟨is, his, rfl⟩ := hc
      simp only [ex] at he
      exact sim_region SC his he G hN hQ
    · rename_i hd
      have hd' : draw = true := by simpa using hd
      subst hd'
      exact sim_draw SC hfol hc he G hN hQ
  | seq p q ihp ihq =>
    intro c hc s x s' he β w a G hN Q hQ
    simp only [cCode, Option.bind_eq_some_iff, Option.map_eq_some_iff] at hc
    obtain ⟨cp, hp, cq, hq, rfl⟩ := hc
    simp only [ex] at he
    refine wpIn_seq ?_
    cases hp1 : ex r cp s with
    | none => rw [hp1] at he; simp at he
    | some y =>
      obtain ⟨x1, s1⟩ := y
      rw [hp1] at he
      refine ihp cp hp s x1 s1 hp1 β w a G hN _ ?_
      intro e a1 w1 F
      cases x1 with
      | normal =>
        simp only at he
        have F' := F
        obtain ⟨β1, G1, X1, hd1, hN1, hx1⟩ := F
        simp only [exitRel] at hx1
        subst hx1
        simp only [Exit.then]
        exact ihq cq hq s1 x s' he β1 w1 a1 G1 hN1 Q (fun e a' w' F2 => hQ e a' w' (by rw [hd1] at F2; exact F2.trans X1))
      | exit id =>
        simp only [Option.some.injEq, Prod.mk.injEq] at he
        obtain ⟨rfl, rfl⟩ := he
        have F' := F
        obtain ⟨β1, G1, X1, hd1, hN1, hx1⟩ := F
        simp only [exitRel] at hx1
        subst hx1
        exact hQ _ _ _ F'
      | ret =>
        simp only [Option.some.injEq, Prod.mk.injEq] at he
        obtain ⟨rfl, rfl⟩ := he
        have F' := F
        obtain ⟨β1, G1, X1, hd1, hN1, hx1⟩ := F
        simp only [exitRel] at hx1
        subst hx1
        exact hQ _ _ _ F'
      | panic v =>
        simp only [Option.some.injEq, Prod.mk.injEq] at he
        obtain ⟨rfl, rfl⟩ := he
        have F' := F
        obtain ⟨β1, G1, X1, hd1, hN1, v', hx1, _⟩ := F
        subst hx1
        exact hQ _ _ _ F'
  | cond c0 p q ihp ihq =>
    intro c hc s x s' he β w a G hN Q hQ
    simp only [cCode, Option.bind_eq_some_iff, Option.map_eq_some_iff] at hc
    obtain ⟨cc, h1, cp, hp, cq, hq, rfl⟩ := hc
    simp only [ex] at he
    have rc := opd_vrel G h1
    split at he
    · rename_i hb
      rw [hb] at rc
      simp only [vrel] at rc
      exact wpIn_cond_true rc (ihp cp hp s x s' he β w a G hN Q hQ)
    · rename_i hb
      rw [hb] at rc
      simp only [vrel] at rc
      exact wpIn_cond_false rc (ihq cq hq s x s' he β w a G hN Q hQ)
    · simp at he
  | block id b ih =>
    intro c hc s x s' he β w a G hN Q hQ
    simp only [cCode, Option.map_eq_some_iff] at hc
    obtain ⟨cb, hb, rfl⟩ := hc
    simp only [ex] at he
    refine wpIn_block ?_
    cases hp1 : ex r cb s with
    | none => rw [hp1] at he; simp at he
    | some y =>
      obtain ⟨x1, s1⟩ := y
      rw [hp1] at he
      refine ih cb hb s x1 s1 hp1 β w a G hN _ ?_
      intro e a1 w1 F
      cases x1 with
      | normal =>
        simp only [Option.some.injEq, Prod.mk.injEq] at he
        obtain ⟨rfl, rfl⟩ := he
        have F' := F
        obtain ⟨β1, G1, X1, hd1, hN1, hx1⟩ := F
        simp only [exitRel] at hx1
        subst hx1
        exact hQ _ _ _ F'
      | exit id' =>
        obtain ⟨β1, G1, X1, hd1, hN1, hx1⟩ := F
        simp only [exitRel] at hx1
        subst hx1
        simp only [Exit.inBlock]
        simp only at he
        split at he
        · rename_i hid
          simp only [Option.some.injEq, Prod.mk.injEq] at he
          obtain ⟨rfl, rfl⟩ := he
          rw [if_pos hid]
          exact hQ _ _ _ ⟨β1, G1, X1, hd1, hN1, rfl⟩
        · rename_i hid
          simp only [Option.some.injEq, Prod.mk.injEq] at he
          obtain ⟨rfl, rfl⟩ := he
          rw [if_neg hid]
          exact hQ _ _ _ ⟨β1, G1, X1, hd1, hN1, rfl⟩
      | ret =>
        simp only [Option.some.injEq, Prod.mk.injEq] at he
        obtain ⟨rfl, rfl⟩ := he
        have F' := F
        obtain ⟨β1, G1, X1, hd1, hN1, hx1⟩ := F
        simp only [exitRel] at hx1
        subst hx1
        exact hQ _ _ _ F'
      | panic v =>
        simp only [Option.some.injEq, Prod.mk.injEq] at he
        obtain ⟨rfl, rfl⟩ := he
        have F' := F
        obtain ⟨β1, G1, X1, hd1, hN1, v', hx1, _⟩ := F
        subst hx1
        exact hQ _ _ _ F'
  | loop b ih =>
    intro c hc s x s' he β w a G hN Q hQ
    simp only [cCode, Option.map_eq_some_iff] at hc
    obtain ⟨cb, hb, rfl⟩ := hc
    simp only [ex] at he
    refine wpIn_loop_rounds (n + 1) ?_
    rw [roundsIn_succ]
    cases hp1 : ex r cb s with
    | none => rw [hp1] at he; simp at he
    | some y =>
      obtain ⟨x1, s1⟩ := y
      rw [hp1] at he
      refine ih cb hb s x1 s1 hp1 β w a G hN _ ?_
      intro e a1 w1 F
      cases x1 with
      | normal =>
        simp only at he
        obtain ⟨β1, G1, X1, hd1, hN1, hx1⟩ := F
        simp only [exitRel] at hx1
        subst hx1
        simp only [Exit.then]
        exact SL cb s1 x s' he N b hb β1 w1 a1 G1 hN1 Q (fun e a' w' F2 => hQ e a' w' (by rw [hd1] at F2; exact F2.trans X1)) ρ
      | exit id =>
        simp only [Option.some.injEq, Prod.mk.injEq] at he
        obtain ⟨rfl, rfl⟩ := he
        have F' := F
        obtain ⟨β1, G1, X1, hd1, hN1, hx1⟩ := F
        simp only [exitRel] at hx1
        subst hx1
        exact hQ _ _ _ F'
      | ret =>
        simp only [Option.some.injEq, Prod.mk.injEq] at he
        obtain ⟨rfl, rfl⟩ := he
        have F' := F
        obtain ⟨β1, G1, X1, hd1, hN1, hx1⟩ := F
        simp only [exitRel] at hx1
        subst hx1
        exact hQ _ _ _ F'
      | panic v =>
        simp only [Option.some.injEq, Prod.mk.injEq] at he
        obtain ⟨rfl, rfl⟩ := he
        have F' := F
        obtain ⟨β1, G1, X1, hd1, hN1, v', hx1, _⟩ := F
        subst hx1
        exact hQ _ _ _ F'
  | rangeFunc f ps p q ihp ihq => intro c hc; simp [cCode] at hc
  | scope b ih => intro c hc; simp [cCode] at hc
  | label l => intro c hc; simp [cCode] at hc
  | goto l => intro c hc; simp [cCode] at hc
  | refuse y => intro c hc; simp [cCode] at hc

/-- The machine's program is the model's. -/
structure ProgOk (P : Program) (AP : AProg) : Prop where
  fol : P.follows .mixedOrders = true
  fn : ∀ f afn, Tr.get AP f = some afn → ∃ fn, P.funcs[f]? = some fn ∧ (fn.name == "runtime.NumGoroutine") = false ∧ cFun P fn = some afn

theorem envOf_val {h : AHeap} {β : Pl} : ∀ {args : List AVal} {vs : List Value} (i : Nat), vrels h β args vs → ∀ t, vrel h β ((envOf i args).val t) (if t < i then undef else vs.getD (t - i) undef) ∨ (t < i ∧ (envOf i args).val t = .undef) ∨ (vs.length ≤ t - i ∧ (envOf i args).val t = .undef)
  | [], vs, i, r, t => by
    rw [vrels_nil] at r; subst r
    right; right
    exact ⟨by simp, rfl⟩
  | a :: as, vs, i, r, t => by
    obtain ⟨v, ws, rfl, r1, r2⟩ := vrels_cons.1 r
    have ih := envOf_val (i + 1) r2 t
    simp only [envOf, Env.val, Tr.get_set]
    by_cases ht : t = i
    · subst ht
      left
      rw [if_pos rfl, if_neg (by omega)]
      simpa using r1
    · rw [if_neg ht]
      simp only [Env.val] at ih
      rcases ih with ih | ⟨h1, h2⟩ | ⟨h1, h2⟩
      · left
        by_cases hl : t < i
        · rw [if_pos hl]; rwa [if_pos (by omega)] at ih
        · rw [if_neg hl]; rw [if_neg (by omega)] at ih
          have : t - i = (t - (i + 1)) + 1 := by omega
          rw [this]; simpa using ih
      · right; left; exact ⟨by omega, h2⟩
      · by_cases hl : t < i
        · right; left; exact ⟨hl, h2⟩
        · right; right
          exact ⟨by simp; omega, h2⟩

/-- A result's reading. -/
def resM (a : Act) (r : ResultVar) : Sem Value := match r with
  | .tmp t => pure (a.tmps.getD t undef)
  | .cell t ty => do loadVar ty (← asAddr (a.tmps.getD t undef))

theorem load_run {P : Program} {w : World} {h : AHeap} {β : Pl} {e : Env} {a : Act} (G : Good P h β w e a.tmps) {t : Nat} {ty : TypeId} {n : Option Nat} (hn : aggN P ty = some n) {av : AVal} {h' : AHeap} (he : aop e h (.load n (.tmp t)) = some (av, h')) :
    ∃ v, (resM a (.cell t ty)).run P w = .ok v w ∧ vrel h β av v := by
  obtain ⟨w1, β1, hrun, _, _⟩ := sim_load (o := { dst := none, op := .load ty (.tmp t), type := 0, pos := "", after := #[], guard := none }) G rfl hn (x := .tmp t) rfl he
  simp only [aop, opd] at he
  have rx := G.env t
  split at he
  · rename_i id g off hh
    have rx' := rx
    rw [hh] at rx
    simp only [vrel] at rx
    obtain ⟨ad, ev, hp1, hp2, hp3⟩ := rx
    rw [if_pos hp1] at he
    simp only [aggN, isAggT, Option.bind_eq_some_iff, Option.map_eq_some_iff] at hn
    obtain ⟨b, ⟨d, hd, hb⟩, hn⟩ := hn
    have hagg : (isAgg ty).run P w = .ok b w := by
      unfold isAgg
      simp only [Sem.run_bind, run_underlying_of hd, Result.andThen_ok]
      subst hb
      cases d <;> rfl
    split at he
    · simp only [Option.bind_eq_some_iff] at he
      obtain ⟨cs, hrd, he⟩ := he
      split at he
      · rename_i v
        simp only [Option.some.injEq, Prod.mk.injEq] at he
        obtain ⟨rfl, rfl⟩ := he
        have hbf : b = false := by
          cases b
          · rfl
          · rw [if_pos rfl] at hn; simp only [Option.map_eq_some_iff] at hn; obtain ⟨_, _, h2⟩ := hn; cases h2
        subst hbf
        obtain ⟨hg, vs, hvs, hvl, _, hc⟩ := read_at G.rel hp1 hrd
        obtain ⟨v', ws, rfl, hv', _⟩ := vrels_cons.1 hvs
        have h0 := hc 0 v' rfl
        have ha := hp3 hg
        subst ha
        have h0' : w.cell? ⟨(β id).b, (β id).o + off, none⟩ = some v' := by simpa [Addr.add] using h0
        exact ⟨v', by simp [resM, ev, asAddr, loadVar, hagg, h0'], hv'⟩
      · simp at he
    · rename_i m
      simp only [Option.map_eq_some_iff, Prod.mk.injEq] at he
      obtain ⟨cs, hrd, rfl, rfl⟩ := he
      have hbt : b = true ∧ sizeT P ty = some m := by
        cases b
        · simp at hn
        · rw [if_pos rfl] at hn; simp only [Option.map_eq_some_iff] at hn; obtain ⟨k, h1, h2⟩ := hn; cases h2; exact ⟨rfl, h1⟩
      obtain ⟨rfl, hsz⟩ := hbt
      simp only [sizeT, Option.map_eq_some_iff] at hsz
      obtain ⟨ti, hti, hsz⟩ := hsz
      obtain ⟨hg, vs, hvs, hvl, _, hc⟩ := read_at G.rel hp1 hrd
      have ha := hp3 hg
      subst ha
      have hld := run_loadCells_list (P := P) w ⟨(β id).b, (β id).o + off, none⟩ vs hc
      rw [hvl] at hld
      exact ⟨.agg vs.toArray, by simp [resM, ev, asAddr, loadVar, hagg, run_sizeOf_of hti, hsz, hld], by simp only [vrel]; exact ⟨_, rfl, by simpa using hvs⟩⟩
  · simp at he

theorem resVals_run {P : Program} {w : World} {β : Pl} {s : St} {a : Act} (G : Good P s.h β w s.e a.tmps) : ∀ {rs : List ResultVar} {ars : List AResVar} {vs : List AVal}, cRes P rs = some ars → resVals s ars = some vs →
    ∃ xs : List Value, vrels s.h β vs xs ∧ (rs.mapM (resM a)).run P w = .ok xs w
  | [], ars, vs, hc, he => by
    simp only [cRes, Option.some.injEq] at hc
    subst hc
    simp only [resVals, Option.some.injEq] at he
    subst he
    exact ⟨[], by simp [vrels], rfl⟩
  | .tmp t :: rs, ars, vs, hc, he => by
    simp only [cRes, Option.map_eq_some_iff] at hc
    obtain ⟨ars', hc', rfl⟩ := hc
    simp only [resVals, resVal, Option.bind_eq_some_iff, Option.map_eq_some_iff, Option.some.injEq] at he
    obtain ⟨v, rfl, vs', he', rfl⟩ := he
    obtain ⟨xs, hx, hr⟩ := resVals_run G hc' he'
    refine ⟨_ :: xs, vrels_cons_cons.2 ⟨G.env t, hx⟩, ?_⟩
    simp only [List.mapM_cons, Sem.run_bind, resM, Sem.run_pure, Result.andThen_ok, hr]
  | .cell t ty :: rs, ars, vs, hc, he => by
    simp only [cRes, Option.bind_eq_some_iff, Option.map_eq_some_iff] at hc
    obtain ⟨n, hn, ars', hc', rfl⟩ := hc
    simp only [resVals, resVal, Option.bind_eq_some_iff, Option.map_eq_some_iff, Prod.exists] at he
    obtain ⟨v, ⟨v1, h1, ha, rfl⟩, vs', he', rfl⟩ := he
    obtain ⟨xs, hx, hr⟩ := resVals_run G hc' he'
    obtain ⟨v', hl, hv⟩ := load_run G hn ha
    refine ⟨v' :: xs, vrels_cons_cons.2 ⟨hv, hx⟩, ?_⟩
    simp only [List.mapM_cons, Sem.run_bind, hl, Result.andThen_ok, hr, Sem.run_pure]

theorem results_run {P : Program} {w : World} {β : Pl} {s : St} {a : Act} (G : Good P s.h β w s.e a.tmps) {fn : Func} {ars : List AResVar} {v : AVal} (hc : cRes P fn.results.toList = some ars) (he : resOf s ars = some v) :
    ∃ x, (results fn a.tmps).run P w = .ok x w ∧ vrel s.h β v x := by
  simp only [resOf, Option.map_eq_some_iff] at he
  obtain ⟨vs, hvs, hv⟩ := he
  obtain ⟨xs, hx, hr⟩ := resVals_run G hc hvs
  have hm : (fn.results.mapM (resM a)).run P w = .ok xs.toArray w := by
    rw [Array.mapM_eq_mapM_toList]
    simp only [Sem.run_bind, Sem.run_map, hr, Result.andThen_ok]
  have hres : (results fn a.tmps).run P w = .ok (if h : xs.toArray.size = 1 then xs.toArray[0] else .tuple xs.toArray) w := by
    show (Sem.run P (fn.results.mapM (resM a) >>= fun vs => pure (if h : vs.size = 1 then vs[0] else .tuple vs)) w) = _
    rw [Sem.run_bind, hm]
    rfl
  refine ⟨_, hres, ?_⟩
  have hl := vrels_length hx
  split at hv
  · rename_i u
    obtain ⟨x, ws, rfl, h1, h2⟩ := vrels_cons.1 hx
    rw [vrels_nil] at h2
    subst h2
    subst hv
    simpa using h1
  · rename_i hne
    have : ¬ xs.toArray.size = 1 := by
      intro h1
      simp at h1
      rw [hl] at h1
      match vs, h1 with
      | [u], _ => exact hne u rfl
    rw [dif_neg this]
    subst hv
    simp only [vrel]
    exact ⟨_, rfl, by simpa using hx⟩

theorem sim_call {P : Program} {AP : AProg} (ok : ProgOk P AP) {r : Rec} {n : Nat} (SC : SoundCall P r) (SL : SoundLoop P n r) : SoundCall P { code := ex r, call := callF AP r } := by
  intro f args h res h' he
  simp only [callF] at he
  split at he
  · simp at he
  · rename_i afn hf
    obtain ⟨fn, q1, q2, q3⟩ := ok.fn f afn hf
    simp only [cFun, Option.bind_eq_some_iff, Option.map_eq_some_iff] at q3
    obtain ⟨c, hbody, b, hb, ars, hars, rfl⟩ := q3
    refine ⟨⟨fn, q1, q2, by rw [hbody]; rfl⟩, ?_⟩
    intro β w vs R hg hv
    refine calls_of_wp q1 hbody (wpIn_wide (n := 0).1 ?_)
    have hvl := vrels_length hv
    have G : Good P h β w (envOf 0 args) (vs ++ Array.replicate (fn.ntmps - vs.size) undef) := by
      refine ⟨R, fun t => ?_, hg⟩
      have := envOf_val 0 hv t
      rw [if_neg (Nat.not_lt_zero t)] at this
      simp only [Nat.sub_zero] at this
      rcases this with this | ⟨h1, _⟩ | ⟨h1, h2⟩
      · by_cases hl : t < vs.size
        · have e : (vs ++ Array.replicate (fn.ntmps - vs.size) undef).getD t undef = vs.toList.getD t undef := by
            simp [Array.getD_eq_getD_getElem?, Array.getElem?_append, hl, List.getD]
          rw [e]; exact this
        · have e : (vs ++ Array.replicate (fn.ntmps - vs.size) undef).getD t undef = undef := by
            simp only [Array.getD_eq_getD_getElem?, Array.getElem?_append, hl, if_false, Array.getElem?_replicate]
            split <;> rfl
          rw [e]
          have e2 : vs.toList.getD t undef = undef := by
            simp [List.getD, hl]
          rwa [e2] at this
      · omega
      · rw [h2]; simp [vrel]
    have hN : fn.ntmps ≤ (vs ++ Array.replicate (fn.ntmps - vs.size) undef).size := by simp; omega
    simp only at he
    cases hx : ex r b { e := envOf 0 args, h := h } with
    | none => rw [hx] at he; simp at he
    | some y =>
      obtain ⟨x, s'⟩ := y
      rw [hx] at he
      refine sim_code (ρ := none) SC SL ok.fol c b hb _ x s' hx β w { tmps := vs ++ Array.replicate (fn.ntmps - vs.size) undef, defers := [] } G hN _ ?_
      intro e a' w' F
      obtain ⟨β1, G1, X1, hd1, hN1, hx1⟩ := F
      cases x with
      | normal =>
        simp only [Option.map_eq_some_iff, Prod.mk.injEq] at he
        obtain ⟨v, hv', rfl, rfl⟩ := he
        simp only [exitRel] at hx1
        subst hx1
        obtain ⟨xv, hxr, hxv⟩ := results_run G1 hars hv'
        exact ⟨hd1, xv, hxr, β1, G1.rel, X1, xv, rfl, hxv⟩
      | ret =>
        simp only [Option.map_eq_some_iff, Prod.mk.injEq] at he
        obtain ⟨v, hv', rfl, rfl⟩ := he
        simp only [exitRel] at hx1
        subst hx1
        obtain ⟨xv, hxr, hxv⟩ := results_run G1 hars hv'
        exact ⟨hd1, xv, hxr, β1, G1.rel, X1, xv, rfl, hxv⟩
      | exit id => simp at he
      | panic v =>
        simp only [Option.some.injEq, Prod.mk.injEq] at he
        obtain ⟨rfl, rfl⟩ := he
        obtain ⟨xv, hx2, hxv⟩ := hx1
        subst hx2
        exact ⟨hd1, β1, G1.rel, X1, xv, rfl, hxv⟩

theorem sound {P : Program} {AP : AProg} (ok : ProgOk P AP) : ∀ n, SoundCall P (run AP n) ∧ SoundLoop P n (run AP n)
  | 0 => ⟨fun f args h res h' he => by simp [run] at he, fun b s x s' he => by simp [run] at he⟩
  | n + 1 => by
    obtain ⟨SC, SL⟩ := sound ok n
    refine ⟨sim_call ok SC SL, ?_⟩
    intro b s x s' he N mb hb β w a G hN Q hQ ρ
    simp only [run, ex] at he
    rw [roundsIn_succ]
    cases hp1 : ex (run AP n) b s with
    | none => rw [hp1] at he; simp at he
    | some y =>
      obtain ⟨x1, s1⟩ := y
      rw [hp1] at he
      refine sim_code SC SL ok.fol mb b hb s x1 s1 hp1 β w a G hN _ ?_
      intro e a1 w1 F
      cases x1 with
      | normal =>
        simp only at he
        obtain ⟨β1, G1, X1, hd1, hN1, hx1⟩ := F
        simp only [exitRel] at hx1
        subst hx1
        simp only [Exit.then]
        exact SL b s1 x s' he N mb hb β1 w1 a1 G1 hN1 Q (fun e a' w' F2 => hQ e a' w' (by rw [hd1] at F2; exact F2.trans X1)) ρ
      | exit id =>
        simp only [Option.some.injEq, Prod.mk.injEq] at he
        obtain ⟨rfl, rfl⟩ := he
        have F' := F
        obtain ⟨β1, G1, X1, hd1, hN1, hx1⟩ := F
        simp only [exitRel] at hx1
        subst hx1
        exact hQ _ _ _ F'
      | ret =>
        simp only [Option.some.injEq, Prod.mk.injEq] at he
        obtain ⟨rfl, rfl⟩ := he
        have F' := F
        obtain ⟨β1, G1, X1, hd1, hN1, hx1⟩ := F
        simp only [exitRel] at hx1
        subst hx1
        exact hQ _ _ _ F'
      | panic v =>
        simp only [Option.some.injEq, Prod.mk.injEq] at he
        obtain ⟨rfl, rfl⟩ := he
        have F' := F
        obtain ⟨β1, G1, X1, hd1, hN1, v', hx1, _⟩ := F
        subst hx1
        exact hQ _ _ _ F'

end Go.AM
