/-
  AM, part 19: acts done ahead of their turn are taken up; operands are what they were.
-/
import Derived.Test.YtedomhceacongaaAmDraw2
namespace Go.AM
set_option linter.unusedVariables false
set_option linter.unusedSimpArgs false

section
variable {P : Program} {N : Nat} {ops : Array Oper} {ds : List DI} {dis : List DInstr} {r : Rec} {e0 : Env} {h0 : AHeap} {ts : List TS} {o : TE} {e1 : Env} {h1 : AHeap} {β0 : Pl} {w0 : World} {dfs : List Deferred}
  (S : SOk P N ops ds dis) (T : TrOk r dis e0 h0 ts o e1 h1)

 include S T in
/-- What the run in the text's order has met at a place. -/
theorem step_at {j : Nat} (hj : j < reach ops ts o) : ∃ oj d k t, ops[j]? = some oj ∧ ds[j]? = some d ∧ dis[j]? = some k ∧ ts[j]? = some t ∧ cInstr P N ops oj = some d.i ∧ insClass d.i.op = some d.c ∧ dkOf ds ds.length j d = some k ∧ k.i = d.i ∧
    envAt ts e1 j = t.e ∧ heapAt ts h1 j = t.h ∧ wanted t.e d.i.guard = some t.w ∧ StepOk r k t (envAt ts e1 (j + 1)) (heapAt ts h1 (j + 1)) := by
  have hjn : j < ops.size := by
    cases ho : o with
    | fin => rw [ho] at hj; exact hj
    | pan v =>
      rw [ho] at hj
      have := T.le
      rw [S.len2] at this
      simp only [reach] at hj
      omega
  have hjt : j < ts.length := by
    cases ho : o with
    | fin => rw [T.fin ho, S.len2]; exact hjn
    | pan v => rw [ho] at hj; simp only [reach] at hj; omega
  obtain ⟨oj, d, k, q1, q2, q3, q4, q5, q6⟩ := S.at hjn
  have ht : ts[j]? = some ts[j] := List.getElem?_eq_getElem hjt
  have hki : k.i = d.i := by
    unfold dkOf at q5
    split at q5 <;> (simp only [Option.some.injEq] at q5; subst q5; rfl)
  refine ⟨oj, d, k, ts[j], q1, q2, q6, ht, q3, q4, q5, hki, by simp [envAt, ht], by simp [heapAt, ht], by rw [← hki]; exact T.wt j k _ q6 ht, T.st j k _ q6 ht ?_⟩
  cases ho : o with
  | fin => exact .inl rfl
  | pan v => right; rw [ho] at hj; simp only [reach] at hj; omega

 include S T in
theorem env_same {t : Nat} : ∀ (k i : Nat), i ≤ k → k ≤ reach ops ts o → (∀ x, i ≤ x → x < k → ¬ wrt ds x t) → (envAt ts e1 k).val t = (envAt ts e1 i).val t := by
  intro k
  induction k with
  | zero => intro i hi hk hw; obtain rfl : i = 0 := by omega
            rfl
  | succ k ih =>
    intro i hi hk hw
    by_cases e : i = k + 1
    · subst e; rfl
    · rw [← ih i (by omega) (by omega) (fun x hx1 hx2 => hw x hx1 (by omega))]
      obtain ⟨oj, d, kk, tt, q1, q2, q3, q4, q5, q6, q7, q8, q9, q10, q11, q12⟩ := step_at S T (show k < reach ops ts o by omega)
      rw [q12.1, q9, put_val, q8, if_neg]
      intro hd
      exact hw k (by omega) (by omega) ⟨d, q2, hd⟩

 include S T in
theorem heap_same : ∀ (k i : Nat), i ≤ k → k ≤ reach ops ts o → (∀ x, i ≤ x → x < k → ¬ isA ds x) → heapAt ts h1 k = heapAt ts h1 i := by
  intro k
  induction k with
  | zero => intro i hi hk hw; obtain rfl : i = 0 := by omega
            rfl
  | succ k ih =>
    intro i hi hk hw
    by_cases e : i = k + 1
    · subst e; rfl
    · rw [← ih i (by omega) (by omega) (fun x hx1 hx2 => hw x hx1 (by omega))]
      obtain ⟨oj, d, kk, tt, q1, q2, q3, q4, q5, q6, q7, q8, q9, q10, q11, q12⟩ := step_at S T (show k < reach ops ts o by omega)
      rw [q10]
      cases htw : tt.w with
      | false => exact (q12.2.1 htw).2
      | true =>
        have := q12.2.2 htw
        have hna : ¬ d.c.isAct = true := fun h => hw k (by omega) (by omega) ⟨d, q2, h⟩
        unfold dkOf at q7
        cases hc : d.c with
        | pure =>
          rw [hc] at q7; simp only [Option.some.injEq] at q7; subst q7
          simp only at this
          split at this
          · cases ‹DK.pure = DK.act _›
          · cases ‹DK.pure = DK.act _›
          · exact this.1
          · exact this.1
          · exact this.elim
        | read =>
          rw [hc] at q7; simp only [Option.some.injEq] at q7; subst q7
          simp only at this
          split at this
          · cases ‹DK.read _ = DK.act _›
          · cases ‹DK.read _ = DK.act _›
          · exact this.1
          · exact this.1
          · exact this.elim
        | act => rw [hc] at hna; simp [DC.isAct] at hna
        | free => rw [hc] at hna; simp [DC.isAct] at hna

variable {bl : Nat → Nat} {listed : Array Bool} {a : Act} {w : World} {p : Nat} {β : Pl}

 include S T in
/-- One place on. -/
theorem Inv.absorb1 (I : Inv P N ops ds ts o e1 h1 h0 β0 w0 dfs bl listed a w p β) (hp : p < reach ops ts o) (hl : isA ds p → Li listed p) :
    ∃ β', Inv P N ops ds ts o e1 h1 h0 β0 w0 dfs bl listed a w (p + 1) β' := by
  obtain ⟨oj, d, kk, tt, q1, q2, q3, q4, q5, q6, q7, q8, q9, q10, q11, q12⟩ := step_at S T hp
  have hpn : p < ops.size := (Array.getElem?_eq_some_iff.1 q1).1
  -- the heap goes on by a heap that stands for the same world
  have key : ∀ β', Rel (heapAt ts h1 (p + 1)) β' w → (heapAt ts h1 (p + 1)).g = P.globals.size → Ext h0 β0 w0 (heapAt ts h1 (p + 1)) β' w → HExt (heapAt ts h1 p) β (heapAt ts h1 (p + 1)) β' →
      (∀ t, isA ds p → wrt ds p t → vrel (heapAt ts h1 (p + 1)) β' ((envAt ts e1 (p + 1)).val t) (a.tmps.getD t undef)) →
      (∀ f, p < f → f < reach ops ts o → isA ds f → Li listed f → (∃ tr, ts[f]? = some tr ∧ tr.w = true) → ∀ id, id < (heapAt ts h1 (p + 1)).n → ((heapAt ts h1 (p + 1)).get id).real = true → (β' id).b ≠ bl f) →
      Inv P N ops ds ts o e1 h1 h0 β0 w0 dfs bl listed a w (p + 1) β' := by
    intro β' R' g' X' HX hnew hbl
    refine { sz := I.sz, pL := by omega, acts := fun i hi ha => ?_, nolast := I.nolast, rel := R', gg := g', ext := X', closed := I.closed, env := fun t => ?_, pend := fun f hf hfn hfa hfl => ?_, dist := fun f g hf hg => I.dist f g (by omega) (by omega), dfr := I.dfr, tmps := I.tmps }
    · by_cases e : i = p
      · subst e; exact hl ha
      · exact I.acts i (by omega) ha
    · rcases I.env t with ⟨i, i1, i2, i3, i4⟩ | ⟨f, f1, f2, f3, f4, f5⟩
      · exact .inl ⟨i, i1, i2, i3, vrel.mono HX i4⟩
      · by_cases e : f = p
        · subst e
          left
          have hpe := I.pend f (Nat.le_refl _) hpn f3 f4
          refine ⟨f + 1, by omega, fun x hx hwx => ?_, fun x hx hxn hwx => hpe.2.1 x t (by omega) hxn f5 hwx, hnew t f3 f5⟩
          by_cases ex : x = f
          · subst ex; exact f4
          · rcases S.pair (show x < f by omega) hpn with hpp | ⟨hpp, _, _⟩
            · exact pbf_listed S I.closed f hpn (fun oj' ho' m hm => I.closed f oj' ho' f4 m hm) x (by omega) hpp
            · exact absurd f5 (hpp t hwx).2
        · exact .inr ⟨f, by omega, f2, f3, f4, f5⟩
    · have hpe := I.pend f (by omega) hfn hfa hfl
      refine ⟨hpe.1, hpe.2.1, fun hfL tr htr => ⟨(hpe.2.2 hfL tr htr).1, fun htw => ?_⟩⟩
      obtain ⟨c, ty, vs, c1, c2, c3, c4, c5, c6, c7⟩ := (hpe.2.2 hfL tr htr).2 htw
      exact ⟨c, ty, vs, c1, c2, hbl f (by omega) hfL hfa hfl ⟨tr, htr, htw⟩, c4, c5, c6, c7⟩
  have hblsame : ∀ f, p < f → f < reach ops ts o → isA ds f → Li listed f → (∃ tr, ts[f]? = some tr ∧ tr.w = true) → ∀ id, id < (heapAt ts h1 p).n → ((heapAt ts h1 p).get id).real = true → (β id).b ≠ bl f := by
    intro f hf hfL hfa hfl ⟨tr, htr, htw⟩ id hid hr
    have hfn : f < ops.size := by obtain ⟨d', hd', _⟩ := hfa; rw [← S.len]; exact (List.getElem?_eq_some_iff.1 hd').1
    obtain ⟨c, ty, vs, c1, c2, c3, _⟩ := ((I.pend f (by omega) hfn hfa hfl).2.2 hfL tr htr).2 htw
    exact c3 id hid hr
  by_cases ha : isA ds p
  · have hpl := hl ha
    have hpe := I.pend p (Nat.le_refl _) hpn ha hpl
    obtain ⟨pw1, pw2⟩ := hpe.2.2 hp tt q4
    cases htw : tt.w with
    | false =>
      have hh := (q12.2.1 htw)
      have hheap : heapAt ts h1 (p + 1) = heapAt ts h1 p := by rw [hh.2, q10]
      refine ⟨β, key β (by rw [hheap]; exact I.rel) (by rw [hheap]; exact I.gg) (by rw [hheap]; exact I.ext) (by rw [hheap]; exact HExt.refl _ _) (fun t _ ht => ?_) (fun f hf hfL hfa hfl hx => by rw [hheap]; exact hblsame f hf hfL hfa hfl hx)⟩
      obtain ⟨d', hd', hdt⟩ := ht
      rw [q2] at hd'; cases hd'
      rw [q12.1, put_val, q8, if_pos hdt, hh.1, pw1 htw t ⟨d, q2, hdt⟩]
      simp [vrel, vrels, undef]
    | true =>
      obtain ⟨c, ty, vs, c1, c2, c3, c4, c5, c6, c7⟩ := pw2 htw
      obtain ⟨R', X'⟩ := Rel.adopt I.rel I.ext c1 c3 c2 c5 c6
      have hx : HExt (heapAt ts h1 p) β ((heapAt ts h1 p).push (.cells 0 false vs)) (updP β (heapAt ts h1 p).n ⟨bl p, 0, vs.length⟩) := by
        refine ⟨by simp, fun j hj => ?_⟩
        have e : j ≠ (heapAt ts h1 p).n := by omega
        have : ((heapAt ts h1 p).push (.cells 0 false vs)).gen j = (heapAt ts h1 p).gen j := by unfold AHeap.gen; rw [AHeap.get_push_ne _ _ e]
        rw [this]; exact ⟨Nat.le_refl _, fun _ => updP_ne β _ e⟩
      refine ⟨updP β (heapAt ts h1 p).n ⟨bl p, 0, vs.length⟩, key _ (by rw [c4]; exact R') (by rw [c4]; exact I.gg) (by rw [c4]; exact X') (by rw [c4]; exact hx) (fun t _ ht => ?_) (fun f hf hfL hfa hfl ⟨tr, htr, htrw⟩ id hid hr => ?_)⟩
      · obtain ⟨d', hd', hdt⟩ := ht
        rw [q2] at hd'; cases hd'
        rw [q12.1, put_val, q8, if_pos hdt]
        refine c7 t ⟨d, q2, hdt⟩ _ _ (by rw [c4]; simp) ?_ (by simp)
        rw [c4]; unfold AHeap.gen; rw [AHeap.get_push_same]
      · rw [c4] at hid hr
        by_cases e : id = (heapAt ts h1 p).n
        · subst e
          rw [updP_same]
          exact I.dist p f (Nat.le_refl _) (by omega) hp hfL hpl hfl ⟨tt, q4, htw⟩ ⟨tr, htr, htrw⟩ ha hfa (by omega)
        · rw [updP_ne β _ e]
          rw [AHeap.get_push_ne _ _ e] at hr
          exact hblsame f hf hfL hfa hfl ⟨tr, htr, htrw⟩ id (by simp at hid; omega) hr
  · have hheap : heapAt ts h1 (p + 1) = heapAt ts h1 p := heap_same S T (p + 1) p (by omega) (by omega) (fun x hx1 hx2 => (show x = p by omega) ▸ ha)
    exact ⟨β, key β (by rw [hheap]; exact I.rel) (by rw [hheap]; exact I.gg) (by rw [hheap]; exact I.ext) (by rw [hheap]; exact HExt.refl _ _) (fun t h => absurd h ha) (fun f hf hfL hfa hfl hx => by rw [hheap]; exact hblsame f hf hfL hfa hfl hx)⟩

 include S T in
/-- As far as it goes: the first act that isn't done. -/
theorem Inv.absorb : ∀ (k : Nat) (p : Nat) (β : Pl), reach ops ts o - p = k → Inv P N ops ds ts o e1 h1 h0 β0 w0 dfs bl listed a w p β →
    ∃ q β', Inv P N ops ds ts o e1 h1 h0 β0 w0 dfs bl listed a w q β' ∧ (q = reach ops ts o ∨ (isA ds q ∧ ¬ Li listed q)) := by
  intro k
  induction k with
  | zero => intro p β hk I; exact ⟨p, β, I, .inl (by have := I.pL; omega)⟩
  | succ k ih =>
    intro p β hk I
    by_cases h : isA ds p ∧ ¬ Li listed p
    · exact ⟨p, β, I, .inr h⟩
    · obtain ⟨β', I'⟩ := Inv.absorb1 S T I (by omega) (fun ha => by
        by_cases hl : Li listed p
        · exact hl
        · exact absurd ⟨ha, hl⟩ h)
      exact ih (p + 1) β' (by omega) I'

 include S T in
/-- An operand of an instruction that may be done now. -/
theorem Inv.operand (I : Inv P N ops ds ts o e1 h1 h0 β0 w0 dfs bl listed a w p β) (hfirst : p = reach ops ts o ∨ (isA ds p ∧ ¬ Li listed p)) {i : Nat} (hi : i ≤ reach ops ts o) (hin : i < ops.size) (hni : ¬ Li listed i)
    (hpre : ∀ oi, ops[i]? = some oi → ∀ m ∈ bindsOn oi, Li listed m) {d : DI} (hd : ds[i]? = some d) {t : Nat} (ht : t ∈ insReads d.i) : vrel (heapAt ts h1 p) β ((envAt ts e1 i).val t) (a.tmps.getD t undef) := by
  have before : ∀ x, x < i → wrt ds x t → Li listed x := by
    intro x hx hw
    rcases S.pair hx hin with hp | ⟨hp, _, _⟩
    · exact pbf_listed S I.closed i hin hpre x (by omega) hp
    · exact absurd ht ((hp t hw).1 d hd)
  have behind : ∀ x, i < x → x < ops.size → wrt ds x t → ¬ Li listed x := by
    intro x hx hxn hw hl
    rcases S.pair hx hxn with hp | ⟨_, hp, _⟩
    · exact hni (pbf_listed S I.closed x hxn (fun oj ho m hm => I.closed x oj ho hl m hm) i hin hp)
    · exact hp t hw d hd ht
  rcases I.env t with ⟨j, j1, j2, j3, j4⟩ | ⟨f, f1, f2, f3, f4, f5⟩
  · rcases Nat.le_total i j with hij | hij
    · have := env_same S T (t := t) j i hij j1 (fun x hx1 hx2 hw => by
        by_cases e : x = i
        · subst e; exact hni (j2 x hx2 hw)
        · exact behind x (by omega) (by obtain ⟨dd, hdd, _⟩ := hw; rw [← S.len]; exact (List.getElem?_eq_some_iff.1 hdd).1) hw (j2 x hx2 hw))
      rw [← this]; exact j4
    · have := env_same S T (t := t) i j hij hi (fun x hx1 hx2 hw => j3 x hx1 (by omega) hw (before x hx2 hw))
      rw [this]; exact j4
  · exfalso
    have hfi : f ≠ i := fun e => hni (e ▸ f4)
    rcases Nat.lt_or_gt_of_ne hfi with hlt | hgt
    · -- a free act ahead of it
      have hpe := I.pend f f1 f2 f3 f4
      rcases S.pair hlt hin with hp | ⟨hp, _, _⟩
      · have hpf : p < f := by
          rcases hfirst with e | ⟨hpa, hpl⟩
          · -- all acts are done: nobody is ahead of its turn, but the last one's place
            exfalso
            cases ho : o with
            | fin => rw [ho] at e; simp only [reach] at e; omega
            | pan v =>
              have : f ≤ reach ops ts o := by omega
              have e2 : f = reach ops ts o := by omega
              exact I.nolast v ho (e2 ▸ f4)
          · have : f ≠ p := fun e => hpl (e ▸ f4)
            omega
        rcases hfirst with e | ⟨hpa, hpl⟩
        · omega
        · have := S.free hpe.1 hin hp hpf hpa
          exact hpl (pbf_listed S I.closed i hin hpre p (by omega) this)
      · exact absurd ht ((hp t f5).1 d hd)
    · exact behind f hgt f2 f5 f4

end
end Go.AM
