/-
  AM, part 25: a call whose first part is run with its arguments, and the rest with what is kept of that.
-/
import Derived.Test.YtedomhceacongaaAmLift
namespace Go.AM
open Go.RowKit
set_option linter.unusedVariables false

/-- The first parts of a body, one behind the other. -/
def cutRun (r : Rec) : Nat → ACode → St → Option St
  | 0, _, s => some s
  | m + 1, .seq a b, s => match ex r a s with
    | some (.normal, s1) => cutRun r m b s1
    | _ => none
  | _ + 1, _, _ => none
def cutRest : Nat → ACode → ACode
  | 0, c => c
  | m + 1, .seq _ b => cutRest m b
  | _ + 1, c => c

theorem seq_of {P : Program} {N : Nat} {mc : Code} {a b : ACode} (h : cCode P N mc = some (.seq a b)) : ∃ ma mb, mc = .seq ma mb ∧ cCode P N ma = some a ∧ cCode P N mb = some b := by
  cases mc with
  | seq ma mb =>
    simp only [cCode, Option.bind_eq_some_iff, Option.map_eq_some_iff] at h
    obtain ⟨a', h1, b', h2, h3⟩ := h
    simp only [ACode.seq.injEq] at h3
    obtain ⟨rfl, rfl⟩ := h3
    exact ⟨ma, mb, rfl, h1, h2⟩
  | region id ops draw =>
    exfalso
    simp only [cCode] at h
    split at h
    · simp at h
    · unfold cDraw at h
      have key : ∀ (ops : Array Oper), cDraw1 P N ops ≠ some (.seq a b) := by
        intro ops h
        simp only [cDraw1, Option.bind_eq_some_iff] at h
        obtain ⟨is, _, ds, _, h⟩ := h
        split at h
        · split at h
          · simp at h
          · simp at h
        · simp at h
      split at h
      · rename_i c hc
        simp only [Option.some.injEq] at h
        subst h
        exact key _ hc
      · simp only at h
        split at h
        · exact key _ h
        · simp at h
  | _ => simp [cCode, Option.bind_eq_some_iff, Option.map_eq_some_iff] at h

theorem sim_cut {P : Program} {r : Rec} {n : Nat} (SC : SoundCall P r) (SL : SoundLoop P n r) {N : Nat} {ρ : Option Nat} (hfol : P.follows .mixedOrders = true) : ∀ (m : Nat) (mc : Code) (c : ACode), cCode P N mc = some c →
    ∀ (s s1 : St), cutRun r m c s = some s1 → ∀ (β : Pl) (w : World) (a : Act), Good P s.h β w s.e a.tmps → N ≤ a.tmps.size → ∀ (Q : Exit → Act → World → Prop),
      (∀ (mt : Code), cCode P N mt = some (cutRest m c) → ∀ (β1 : Pl) (w1 : World) (a1 : Act), Good P s1.h β1 w1 s1.e a1.tmps → N ≤ a1.tmps.size → Ext s.h β w s1.h β1 w1 → a1.defers = a.defers → mt.wpIn (fen ρ) 0 P Q a1 w1) →
      mc.wpIn (fen ρ) 0 P Q a w := by
  intro m
  induction m with
  | zero =>
    intro mc c hc s s1 he β w a G hN Q hQ
    simp only [cutRun, Option.some.injEq] at he
    subst he
    exact hQ mc hc β w a G hN (Ext.refl _ _ _) rfl
  | succ m ih =>
    intro mc c hc s s1 he β w a G hN Q hQ
    cases c with
    | seq p q =>
      obtain ⟨ma, mb, rfl, h1, h2⟩ := seq_of hc
      simp only [cutRun] at he
      split at he
      · rename_i s2 hx
        refine wpIn_seq (sim_code SC SL hfol ma p h1 s .normal s2 hx β w a G hN _ ?_)
        rintro e a2 w2 ⟨β2, G2, X2, hd2, hN2, hx2⟩
        simp only [exitRel] at hx2
        subst hx2
        simp only [Exit.then]
        refine ih mb q h2 s2 s1 he β2 w2 a2 G2 hN2 Q fun mt hmt β1 w1 a1 G1 hN1 X1 hd1 => hQ mt hmt β1 w1 a1 G1 hN1 (X2.trans X1) (by rw [hd1, hd2])
      · simp at he
    | _ => simp [cutRun] at he

/-- A call, in two parts: the second one knows of the first one's slots what 'e2' knows. -/
theorem cut_call {P : Program} {AP : AProg} (ok : ProgOk P AP) (n m : Nat) {f : FuncId} {afn : AFun} (hf : Tr.get AP f = some afn) (hl : afn.late = none) (hr : afn.rcv = none) {args : List AVal} {h : AHeap} {s1 : St}
    (h1 : cutRun (run AP n) m afn.body { e := envOf 0 args, h := h } = some s1) {e2 : Env} (he : ∀ t, e2.val t = .undef ∨ e2.val t = s1.e.val t) {v : AVal} {h3 : AHeap}
    (h2 : ((ex (run AP n) (cutRest m afn.body) { e := e2, h := s1.h }).bind fun y => match y.1 with
      | .normal | .ret => (resOf y.2 afn.results).map fun v => (v, y.2.h)
      | _ => none) = some (v, h3)) (β : Pl) (w : World) (vs : Array Value) (R : Rel h β w) (hg : h.g = P.globals.size) (hv : vrels h β args vs.toList) :
    Calls P f vs w fun e w' => ∃ β', Rel h3 β' w' ∧ Ext h β w h3 β' w' ∧ ∃ x, e = .returned x ∧ vrel h3 β' v x := by
  obtain ⟨SC, SL, _⟩ := sound ok n
  obtain ⟨fn, q1, q2, q3⟩ := ok.fn f afn hf
  simp only [cFun, Option.bind_eq_some_iff] at q3
  obtain ⟨c, hbody, ars, hars, q3⟩ := q3
  have G := good_enter R hg hv fn.ntmps
  have hN : fn.ntmps ≤ (vs ++ Array.replicate (fn.ntmps - vs.size) undef).size := by simp; omega
  split at q3
  · rename_i b hb
    simp only [Option.some.injEq] at q3
    subst q3
    refine calls_of_wp q1 hbody (wpIn_wide (n := 0).1 ?_)
    refine sim_cut (ρ := none) SC SL ok.fol m c b hb _ s1 h1 β w { tmps := vs ++ Array.replicate (fn.ntmps - vs.size) undef, defers := [] } G hN _ ?_
    intro mt hmt β1 w1 a1 G1 hN1 X1 hd1
    simp only at h2
    cases hx : ex (run AP n) (cutRest m b) { e := e2, h := s1.h } with
    | none => rw [hx] at h2; simp at h2
    | some y =>
      obtain ⟨x, s2⟩ := y
      rw [hx] at h2
      simp only [Option.bind_some] at h2
      have G2 : Good P s1.h β1 w1 e2 a1.tmps := ⟨G1.rel, fun t => by
        rcases he t with e | e
        · rw [e]; simp [vrel]
        · rw [e]; exact G1.env t, G1.g⟩
      refine sim_code (ρ := none) SC SL ok.fol mt _ hmt { e := e2, h := s1.h } x s2 hx β1 w1 a1 G2 hN1 _ ?_
      rintro e a2 w2 ⟨β2, G2, X2, hd2, hN2, hx2⟩
      cases x with
      | normal =>
        simp only [Option.map_eq_some_iff, Prod.mk.injEq] at h2
        obtain ⟨v', hv', rfl, rfl⟩ := h2
        simp only [exitRel] at hx2
        subst hx2
        obtain ⟨xv, hxr, hxv⟩ := results_run G2 hars hv'
        exact ⟨by rw [hd2, hd1], xv, hxr, β2, G2.rel, X1.trans X2, xv, rfl, hxv⟩
      | ret =>
        simp only [Option.map_eq_some_iff, Prod.mk.injEq] at h2
        obtain ⟨v', hv', rfl, rfl⟩ := h2
        simp only [exitRel] at hx2
        subst hx2
        obtain ⟨xv, hxr, hxv⟩ := results_run G2 hars hv'
        exact ⟨by rw [hd2, hd1], xv, hxr, β2, G2.rel, X1.trans X2, xv, rfl, hxv⟩
      | exit id => simp at h2
      | panic v => simp at h2
  · split at q3
    · simp only [Option.some.injEq] at q3
      subst q3
      simp at hl
    · simp only [Option.map_eq_some_iff, Prod.exists] at q3
      obtain ⟨d, b, _, rfl⟩ := q3
      simp at hr

def pairsEnv : List (Nat × AVal) → Env
  | [] => .nil
  | (t, v) :: l => Tr.set (pairsEnv l) t v
theorem pairsEnv_val : ∀ (l : List (Nat × AVal)) (t : Nat), (pairsEnv l).val t = .undef ∨ (t, (pairsEnv l).val t) ∈ l
  | [], t => .inl rfl
  | (s, v) :: l, t => by
    have ih := pairsEnv_val l t
    simp only [pairsEnv, Env.val, Tr.get_set] at ih ⊢
    by_cases e : t = s
    · subst e; right; rw [if_pos rfl]; exact List.mem_cons_self
    · rw [if_neg e]
      rcases ih with ih | ih
      · exact .inl ih
      · exact .inr (List.mem_cons_of_mem _ ih)

/-- Does the first part come to these slots, and leave the heap alone? -/
def firstOk (r : Rec) (m : Nat) (c : ACode) (args : List AVal) (g : Nat) (l : List (Nat × AVal)) : Bool := match cutRun r m c { e := envOf 0 args, h := heap0 g } with
  | some s => l.all (fun p => (s.e.val p.1).beq p.2) && s.h.g == g && s.h.n == g && (match s.h.t with | .nil => true | _ => false)
  | none => false
def cutTrue (r : Rec) (m : Nat) (afn : AFun) (l : List (Nat × AVal)) (g : Nat) : Bool := match ((ex r (cutRest m afn.body) { e := pairsEnv l, h := heap0 g }).bind fun y => match y.1 with
      | .normal | .ret => (resOf y.2 afn.results).map fun v => (v, y.2.h)
      | _ => none) with
  | some (.bool true, _) => true
  | _ => false

theorem cut_true {P : Program} {AP : AProg} (ok : ProgOk P AP) (n m g : Nat) {f : FuncId} {afn : AFun} (hf : Tr.get AP f = some afn) (hl : afn.late = none) (hr : afn.rcv = none) (hg : P.globals.size = g) (args : List AVal) (vs : Array Value) (hv : ∀ h β, vrels h β args vs.toList)
    (l : List (Nat × AVal)) (h1 : firstOk (run AP n) m afn.body args g l = true) (h2 : cutTrue (run AP n) m afn l g = true) (w : World) : Calls P f vs w fun e w' => e = .returned (.bool true) ∧ Grown w w' := by
  unfold firstOk at h1
  split at h1
  · rename_i s1 hs
    simp only [Bool.and_eq_true, beq_iff_eq, List.all_eq_true] at h1
    obtain ⟨⟨⟨h1, g1⟩, g2⟩, g3⟩ := h1
    have hh : s1.h = heap0 g := by
      obtain ⟨e, hg', n', t'⟩ := s1
      simp only at g1 g2 g3 ⊢
      subst g1; subst g2
      split at g3
      · rfl
      · cases g3
    unfold cutTrue at h2
    split at h2
    · rename_i h3 hx
      refine (cut_call ok n m hf hl hr hs (e2 := pairsEnv l) (fun t => ?_) (by rw [hh]; exact hx) pl0 w vs (rel0 _ w) hg.symm (hv _ _)).mono ?_
      · rcases pairsEnv_val l t with e | e
        · exact .inl e
        · exact .inr (beq_eq (h1 _ e)).symm
      · rintro e w' ⟨β', R, X, x, rfl, hx⟩
        simp only [vrel] at hx
        subst hx
        exact ⟨rfl, X.grown fun id _ => rfl⟩
    · cases h2
  · cases h1

end Go.AM
