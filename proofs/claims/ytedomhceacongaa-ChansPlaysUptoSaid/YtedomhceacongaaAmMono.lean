/-
  AM, part 30: what is asked behind a code may be weakened.
-/
import Derived.Test.YtedomhceacongaaAmSep
namespace Go.AM
set_option linter.unusedVariables false

theorem wpIs_mono {P : AProg} : ∀ (is : List AInstr) {Q Q' : Env → AHeap → Prop} (i : ∀ e h, Q e h → Q' e h) (e : Env) (h : AHeap), wpIs P is Q e h → wpIs P is Q' e h
  | [], Q, Q', i, e, h, w => i e h w
  | a :: is, Q, Q', i, e, h, w => by
    simp only [wpIs] at w ⊢
    cases hg : wanted e a.guard with
    | none => rw [hg] at w; exact w.elim
    | some b =>
      rw [hg] at w
      cases b with
      | false => exact wpIs_mono is i _ _ w
      | true =>
        simp only [wpG] at w ⊢
        cases ho : a.op with
        | op o =>
          rw [ho] at w
          simp only at w ⊢
          cases hx : aop e h o with
          | none => rw [hx] at w; exact w.elim
          | some p => rw [hx] at w; exact wpIs_mono is i _ _ w
        | call f args =>
          rw [ho] at w
          simp only at w ⊢
          unfold wpFn at w ⊢
          split at w
          · exact w.mono fun v h' w => wpIs_mono is i _ _ w
          · exact w.elim
        | panic x => rw [ho] at w; exact w.elim

theorem wpTr_mono {P : AProg} : ∀ (is : List DInstr) {Q Q' : List TS → Env → AHeap → Prop} (i : ∀ ts e h, Q ts e h → Q' ts e h) (e : Env) (h : AHeap), wpTr P is Q e h → wpTr P is Q' e h
  | [], Q, Q', i, e, h, w => i [] e h w
  | a :: is, Q, Q', i, e, h, w => by
    simp only [wpTr] at w ⊢
    cases hg : wanted e a.i.guard with
    | none => rw [hg] at w; exact w.elim
    | some b =>
      rw [hg] at w
      cases b with
      | false => exact wpTr_mono is (fun ts e h q => i _ e h q) _ _ w
      | true =>
        simp only [wpG] at w ⊢
        cases ho : a.i.op with
        | op o =>
          rw [ho] at w
          simp only at w ⊢
          cases hx : aop e h o with
          | none => rw [hx] at w; exact w.elim
          | some p => rw [hx] at w; exact wpTr_mono is (fun ts e h q => i _ e h q) _ _ w
        | call f args =>
          rw [ho] at w
          simp only at w ⊢
          cases hk : a.k with
          | act last =>
            rw [hk] at w
            simp only at w ⊢
            unfold wpFn at w ⊢
            split at w
            · exact w.mono fun v h' w => wpTr_mono is (fun ts e h q => i _ e h q) _ _ w
            · exact w.elim
          | pure => rw [hk] at w; exact w.elim
          | read qs => rw [hk] at w; exact w.elim
        | panic x => rw [ho] at w; exact w.elim

theorem wp_mono {P : AProg} : ∀ (c : ACode) {Q Q' : Post} (i : ∀ x e h, Q x e h → Q' x e h) (e : Env) (h : AHeap), wp P c Q e h → wp P c Q' e h
  | .skip, Q, Q', i, e, h, w => i _ _ _ w
  | .exit id, Q, Q', i, e, h, w => i _ _ _ w
  | .ret, Q, Q', i, e, h, w => i _ _ _ w
  | .region is, Q, Q', i, e, h, w => wpIs_mono is (fun e h q => i _ e h q) e h w
  | .draw is, Q, Q', i, e, h, w => wpTr_mono is (fun ts e h q => ⟨q.1, i _ e h q.2⟩) e h w
  | .seq a b, Q, Q', i, e, h, w => wp_mono a (fun x e h q => by
      cases x with
      | normal => exact wp_mono b i e h q
      | exit id => exact i _ _ _ q
      | ret => exact i _ _ _ q
      | panic v => exact i _ _ _ q) e h w
  | .cond c a b, Q, Q', i, e, h, w => by
    simp only [wp] at w ⊢
    unfold wpC at w ⊢
    split at w
    · exact wp_mono a i e h w
    · exact wp_mono b i e h w
    · exact w.elim
  | .block id b, Q, Q', i, e, h, w => wp_mono b (fun x e h q => by
      cases x with
      | normal => exact i _ _ _ q
      | exit id' =>
        simp only [blkQ] at q ⊢
        split at q
        · rename_i hh; rw [if_pos hh]; exact i _ _ _ q
        · rename_i hh; rw [if_neg hh]; exact i _ _ _ q
      | ret => exact i _ _ _ q
      | panic v => exact i _ _ _ q) e h w
  | .loop b, Q, Q', i, e, h, w => by
    obtain ⟨I, k, h0, hs⟩ := w
    refine ⟨I, k, h0, fun k e h hi => wp_mono b (fun x e h q => ?_) e h (hs k e h hi)⟩
    cases x with
    | normal => exact q
    | exit id => exact i _ _ _ q
    | ret => exact i _ _ _ q
    | panic v => exact i _ _ _ q

/-- Cut: what holds behind a choice, and what follows of it. -/
theorem cI_cut {P : AProg} {v : AVal} {a b : ACode} {Q : Post} {e : Env} {h : AHeap} (J : Env → AHeap → Prop) (h1 : ∀ e' h', J e' h' → Q .normal e' h') (h2 : cI P v a b (fun x e' h' => x = .normal ∧ J e' h') e h) : cI P v a b Q e h := by
  unfold cI wpC at h2 ⊢
  split at h2
  · exact wp_mono a (fun x e h q => by obtain ⟨rfl, q⟩ := q; exact h1 _ _ q) e h h2
  · exact wp_mono b (fun x e h q => by obtain ⟨rfl, q⟩ := q; exact h1 _ _ q) e h h2
  · exact h2.elim

end Go.AM
