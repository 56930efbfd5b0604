/-
  AM, part 22: regions whose order is open: in every order the model comes to where the machine comes to.
-/
import Derived.Test.YtedomhceacongaaAmDraw5
namespace Go.AM
set_option linter.unusedVariables false
set_option linter.unusedSimpArgs false

theorem cInstr_parts {P : Program} {N : Nat} {ops : Array Oper} {o : Oper} {i : AInstr} (h : cInstr P N ops o = some i) :
    i.dst = o.dst ∧ (∀ t, i.dst = some t → t < N) ∧ cIOp P o.op = some i.op ∧ cGuard ops o.guard = some i.guard ∧ ∀ t b, i.guard = some (t, b) → t < N := by
  simp only [cInstr] at h
  split at h
  · rename_i hcond
    simp only [Option.bind_eq_some_iff] at h
    obtain ⟨ao, hao, ag, hag, h⟩ := h
    split at h
    · rename_i hgc
      simp only [Option.some.injEq] at h
      subst h
      refine ⟨rfl, fun t ht => ?_, hao, hag, fun t b hh => ?_⟩
      · simp only at ht; rw [ht] at hcond; simpa [dstOk] using hcond
      · simp only at hh; rw [hh] at hgc; simpa [dstOk] using hgc
    · simp at h
  · simp at h

theorem wanted_congr {e1 e2 : Env} {g : Option (Nat × Bool)} (h : ∀ t b, g = some (t, b) → e1.val t = e2.val t) : wanted e1 g = wanted e2 g := by
  cases g with
  | none => rfl
  | some tb => obtain ⟨t, b⟩ := tb; simp only [wanted]; rw [h t b rfl]

theorem wiped_val : ∀ (dis : List DInstr) (e : Env) (t : Nat), (∃ d ∈ dis, d.i.dst = some t) → (wiped e dis).val t = .undef
  | [], e, t, h => by obtain ⟨d, hd, _⟩ := h; cases hd
  | d :: dis, e, t, h => by
    by_cases h2 : ∃ d ∈ dis, d.i.dst = some t
    · exact wiped_val dis _ t h2
    · obtain ⟨d', hd', hdt⟩ := h
      rcases List.mem_cons.1 hd' with rfl | hd'
      · have : ∀ (dis : List DInstr) (e : Env), (¬ ∃ d ∈ dis, d.i.dst = some t) → (wiped e dis).val t = e.val t := by
          intro dis
          induction dis with
          | nil => intro e _; rfl
          | cons x xs ih =>
            intro e hx
            show (wiped (put e x.i.dst .undef) xs).val t = _
            rw [ih _ (fun ⟨d, hd, h⟩ => hx ⟨d, List.mem_cons_of_mem _ hd, h⟩), put_val, if_neg (fun h => hx ⟨x, List.mem_cons_self, h⟩)]
        show (wiped (put e d'.i.dst .undef) dis).val t = _
        rw [this _ _ h2, put_val, if_pos hdt]
      · exact absurd ⟨d', hd', hdt⟩ h2
theorem wiped_val_ne : ∀ (dis : List DInstr) (e : Env) (t : Nat), (¬ ∃ d ∈ dis, d.i.dst = some t) → (wiped e dis).val t = e.val t
  | [], e, t, h => rfl
  | x :: xs, e, t, hx => by
    show (wiped (put e x.i.dst .undef) xs).val t = _
    rw [wiped_val_ne xs _ t (fun ⟨d, hd, h⟩ => hx ⟨d, List.mem_cons_of_mem _ hd, h⟩), put_val, if_neg (fun h => hx ⟨x, List.mem_cons_self, h⟩)]

section
variable {P : Program} {N : Nat} {ops : Array Oper} {ds : List DI} {dis : List DInstr} {r : Rec} {e0 : Env} {h0 : AHeap} {ts : List TS} {o : TE} {e1 : Env} {h1 : AHeap} {β0 : Pl} {w0 : World} {dfs : List Deferred}
  (S : SOk P N ops ds dis) (T : TrOk r dis e0 h0 ts o e1 h1)
variable {bl : Nat → Nat} {listed : Array Bool} {a : Act} {w : World} {p : Nat} {β : Pl}

 include S T in
theorem Inv.good (I : Inv P N ops ds ts o e1 h1 h0 β0 w0 dfs bl listed a w p β) (hf : p = reach ops ts o ∨ (isA ds p ∧ ¬ Li listed p)) {i : Nat} (hi : i ≤ reach ops ts o) (hin : i < ops.size) (hni : ¬ Li listed i)
    (hpre : ∀ oi, ops[i]? = some oi → ∀ m ∈ bindsOn oi, Li listed m) {d : DI} (hd : ds[i]? = some d) : Good P (heapAt ts h1 p) β w (rest (envAt ts e1 i) (insReads d.i)) a.tmps := by
  refine ⟨I.rel, fun t => ?_, I.gg⟩
  rw [rest_val]
  split
  · rename_i ht
    exact I.operand S T hf hi hin hni hpre hd ht
  · simp [vrel]

theorem wrt_dis (S : SOk P N ops ds dis) {x t : Nat} (h : wrt ds x t) : ∃ d ∈ dis, d.i.dst = some t := by
  obtain ⟨d, hd, hdt⟩ := h
  have hx : x < ops.size := by rw [← S.len]; exact (List.getElem?_eq_some_iff.1 hd).1
  obtain ⟨oj, d', k, h1, h2, h3, h4, h5, h6⟩ := S.at hx
  rw [hd] at h2; cases h2
  refine ⟨k, List.mem_of_getElem? h6, ?_⟩
  unfold dkOf at h5
  split at h5 <;> (simp only [Option.some.injEq] at h5; subst h5; exact hdt)

 include S T in
theorem Inv.step (SC : SoundCall P r) (RO : readsOk ts h1 dis ts = true) (I : Inv P N ops ds ts o e1 h1 h0 β0 w0 dfs bl listed a w p β) (hf : p = reach ops ts o ∨ (isA ds p ∧ ¬ Li listed p)) {i : Nat} (hi : i ∈ Region.ready .any ops listed)
    {ρ : Option Nat} {K : Act → World → Prop} {Q : Exit → Act → World → Prop} (hK : ∀ bl' a' w' p' β', Inv P N ops ds ts o e1 h1 h0 β0 w0 dfs bl' (listed.setIfInBounds i true) a' w' p' β' → K a' w')
    (hQ : ∀ v, o = .pan v → ∀ ex a' w', Fin P N h0 β0 w0 dfs (.panic v) ⟨wiped e0 dis, h1⟩ ex a' w' → Q ex a' w') : wpOpIn (fen ρ) 0 P ops Q i K a w := by
  obtain ⟨hin, hni, hpre⟩ := ready_iff I.sz hi
  have hfirst := I.first S T hf
  have hpos : isA ds i → p ≤ i := fun ha => by
    rcases Nat.lt_or_ge i p with h | h
    · exact absurd (I.acts i h ha) hni
    · exact h
  have hfree : isA ds i → p < i → frA ds i := fun ha hlt => by
    rcases hfirst with ⟨_, e⟩ | ⟨hpa, hpl⟩
    · omega
    · rcases S.pair hlt hin with hp | ⟨_, _, hp⟩
      · exact absurd (pbf_listed S I.closed i hin hpre p (by omega) hp) hpl
      · exact hp hpa ha
  unfold wpOpIn
  rcases Nat.lt_trichotomy i (reach ops ts o) with hir | hir | hir
  · -- within reach
    obtain ⟨oj, d, k, tr, q1, q2, q3, q4, q5, q6, q7, q8, q9, q10, q11, q12⟩ := step_at S T hir
    obtain ⟨c1, c2, c3, c4, c5⟩ := cInstr_parts q5
    have hnd := cIOp_nd c3
    rw [q1]
    simp only
    have G := I.good S T hf (Nat.le_of_lt hir) hin hni hpre q2
    have hval : ∀ t, t ∈ insReads d.i → (rest (envAt ts e1 i) (insReads d.i)).val t = tr.e.val t := fun t ht => by rw [rest_val, if_pos ht, q9]
    have hw : wanted (rest (envAt ts e1 i) (insReads d.i)) d.i.guard = some tr.w := by
      rw [wanted_congr (e2 := tr.e) fun t b hg => hval t (by simp only [insReads, hg]; simp)]; exact q11
    have hwd := wanted_of G c4 I.tmps c5 hw rfl
    have hopr : ∀ ao, d.i.op = .op ao → ∀ hx, aop (rest (envAt ts e1 i) (insReads d.i)) hx ao = aop tr.e hx ao := fun ao hao hx =>
      aop_congr (fun t ht => hval t (by simp only [insReads, hao]; simp [ht])) hx
    cases htw : tr.w with
    | false =>
      rw [if_neg (by rw [hwd, htw]; simp)]
      obtain ⟨hv0, hh0⟩ := q12.2.1 htw
      have hvr : ∀ h β, vrel h β tr.v undef := fun h β => by rw [hv0]; simp [vrel, vrels, undef]
      rw [← c1]
      refine ⟨fun _ _ => trivial, ?_⟩
      by_cases ha : isA ds i
      · rcases Nat.eq_or_lt_of_le (hpos ha) with e | hlt
        · subst e
          have e2 : heapAt ts h1 (p + 1) = heapAt ts h1 p := by rw [hh0, q10]
          exact hK _ _ _ _ _ (I.norm S T hfirst hin hni hpre hir (.inr ⟨rfl, ha, rfl⟩) q2 q4 (by rw [e2]; exact I.rel) (by rw [e2]; exact Ext.refl _ _ _) (hvr _ _) c2)
        · exact hK (fun k => if k = i then w.heap.size else bl k) _ _ _ _ (I.early S T hfirst hin hni hpre hlt (hfree ha hlt) (fun v ho => by omega) q2 (by simp) (fun k hk => by simp [hk]) (Nat.le_refl _) (fun _ _ => rfl) rfl rfl (fun _ => rfl) c2 (fun _ tr' htr' => by
            rw [q4] at htr'; cases htr'
            exact ⟨fun _ => rfl, fun h => by rw [htw] at h; cases h⟩))
      · exact hK _ _ _ _ _ (I.norm S T hfirst hin hni hpre hir (.inl ⟨ha, rfl⟩) q2 q4 I.rel (Ext.refl _ _ _) (hvr _ _) c2)
    | true =>
      rw [if_pos (by rw [hwd, htw])]
      have hst := q12.2.2 htw
      have plain : ∀ ao, d.i.op = .op ao → ∀ p', ((¬ isA ds i ∧ p' = p) ∨ (i = p ∧ isA ds i ∧ p' = p + 1)) → aop tr.e (heapAt ts h1 p) ao = some (tr.v, heapAt ts h1 p') → oj.wpIn (fen ρ) 0 P a w K Q := by
        intro ao hao p' hp' he
        rw [← hopr ao hao] at he
        rw [hao] at c3
        obtain ⟨w1, β1, hrun, R1, X1⟩ := sim_op G (cOp_plain c3) he
        rcases hrun with ⟨v, hrun, hv⟩ | ⟨hrun, hav⟩
        · refine wpIn_of_run hnd hrun ?_
          rw [Oper.uponIn_value, ← c1]
          exact hK _ _ _ _ _ (I.norm S T hfirst hin hni hpre hir hp' q2 q4 R1 X1 hv c2)
        · refine wpIn_of_run hnd hrun ?_
          rw [Oper.uponIn_skip, ← c1]
          exact hK _ _ _ _ _ (I.norm S T hfirst hin hni hpre hir hp' q2 q4 R1 X1 (by rw [hav]; simp [vrel]) c2)
      have hact : d.c.isAct = true → isA ds i := fun h => ⟨d, q2, h⟩
      have hnact : d.c.isAct = false → ¬ isA ds i := fun h ⟨d', hd', hc⟩ => by rw [q2] at hd'; cases hd'; rw [h] at hc; cases hc
      unfold dkOf at q7
      cases hc : d.c with
      | pure =>
        rw [hc] at q7; simp only [Option.some.injEq] at q7; subst q7
        rw [hc] at q6
        simp only at hst
        split at hst
        · rename_i h1' _; cases h1'
        · rename_i h1' _; cases h1'
        · rename_i ao h1' hop
          obtain ⟨e2, h', he⟩ := hst
          rw [hop] at q6
          simp only [insClass, Option.some.injEq] at q6
          exact plain ao hop p (.inl ⟨hnact (by rw [hc]; rfl), rfl⟩) (aop_pure q6 he _).2
        · rename_i h1' hop; cases h1'
        · exact hst.elim
      | read =>
        rw [hc] at q7; simp only [Option.some.injEq] at q7; subst q7
        rw [hc] at q6
        simp only at hst
        split at hst
        · rename_i h1' _; cases h1'
        · rename_i h1' _; cases h1'
        · rename_i h1' hop; cases h1'
        · rename_i qs ao h1' hop
          obtain ⟨e2, h', he⟩ := hst
          rw [hop] at q6
          simp only [insClass, Option.some.injEq] at q6
          have hna := hnact (by rw [hc]; rfl)
          by_cases hq : p ∈ placesQ ds ds.length i d.pre
          · have hro := readsOk_at RO i _ _ q3 q4
            simp only [readOk, hop, htw, Bool.not_true, Bool.false_or, List.all_eq_true] at hro
            have hro := hro p hq
            simp only [Bool.or_eq_true, decide_eq_true_eq] at hro
            have hpl : p ≤ ts.length := by
              have := I.pL
              cases ho : o with
              | fin => rw [ho] at this; simp only [reach] at this; rw [T.fin ho, S.len2]; exact this
              | pan v => rw [ho] at this; simp only [reach] at this; omega
            rcases hro with hro | hro
            · omega
            · obtain ⟨h2, he2⟩ := same_eq hro
              have := aop_read q6 he2
              subst this
              exact plain ao hop p (.inl ⟨hna, rfl⟩) he2
          · -- the same acts stand ahead of both places
            have hms : mayStand ds ds.length i d.pre p = true := by
              simp only [mayStand, Bool.and_eq_true, Bool.or_eq_true, beq_iff_eq, Option.any_eq_true, List.all_eq_true, List.mem_range, Option.all_eq_true, Bool.not_eq_true', decide_eq_true_eq, Bool.and_eq_false_iff, decide_eq_false_iff_not]
              refine ⟨?_, fun c hcn dc hdc => ?_⟩
              · rcases hfirst with ⟨_, e⟩ | ⟨⟨dp, hdp, hdpa⟩, _⟩
                · left; rw [e, S.len]
                · right; exact ⟨dp, hdp, hdpa⟩
              · by_cases hca : dc.c.isAct = true
                · right
                  have hcA : isA ds c := ⟨dc, hdc, hca⟩
                  refine ⟨?_, ?_⟩
                  · by_cases hb : bitOf d.pre c = true
                    · right
                      have hcl := pbf_listed S I.closed i hin hpre c (isA_lt S hcA) ⟨d, q2, hb⟩
                      rcases Nat.lt_or_ge c p with h | h
                      · exact h
                      · exfalso
                        rcases hfirst with ⟨_, e⟩ | ⟨hpa, hpl⟩
                        · have := isA_lt S hcA; omega
                        · have hne : c ≠ p := fun e => hpl (e ▸ hcl)
                          have := S.free (I.pend c h (isA_lt S hcA) hcA hcl).1 hin ⟨d, q2, hb⟩ (show p < c by omega) hpa
                          exact hpl (pbf_listed S I.closed i hin hpre p (isA_lt S hpa) this)
                    · left; simpa using hb
                  · by_cases hic : i < c ∧ c < p
                    · right
                      have hcl := I.acts c hic.2 hcA
                      cases hb : bitOf dc.pre i with
                      | false => rfl
                      | true => exact absurd (pbf_listed S I.closed c (isA_lt S hcA) (fun oj ho m hm => I.closed c oj ho hcl m hm) i hin ⟨dc, hdc, hb⟩) hni
                    · left
                      by_cases h1 : i < c
                      · right; exact fun h => hic ⟨h1, h⟩
                      · left; exact h1
                · left; simpa using hca
            have hahead : actsAhead ds p = actsAhead ds i := by
              simp only [placesQ, List.mem_filter, List.mem_range, Bool.and_eq_true, bne_iff_ne, ne_eq] at hq
              have hpn : p < ds.length + 1 := by
                have := I.pL
                rw [S.len]
                cases ho : o with
                | fin => rw [ho] at this; simp only [reach] at this; omega
                | pan v =>
                  rw [ho] at this; simp only [reach] at this
                  have := T.le; rw [S.len2] at this; omega
              by_cases e : actsAhead ds p = actsAhead ds i
              · exact e
              · exact absurd ⟨hpn, hms, e⟩ hq
            have hheap : heapAt ts h1 p = heapAt ts h1 i := by
              rcases Nat.le_total i p with h | h
              · exact heap_same S T p i h I.pL fun x hx1 hx2 hx => by have := actsAhead_lt hx1 hx2 hx; omega
              · exact (heap_same S T i p h (Nat.le_of_lt hir) fun x hx1 hx2 hx => by have := actsAhead_lt hx1 hx2 hx; omega).symm
            have := aop_read q6 he
            subst this
            refine plain ao hop p (.inl ⟨hna, rfl⟩) ?_
            rw [hheap, q10]; exact he
        · exact hst.elim
      | act =>
        rw [hc] at q7; simp only [Option.some.injEq] at q7; subst q7
        have ha := hact (by rw [hc]; rfl)
        have hip : i = p := by
          rcases Nat.eq_or_lt_of_le (hpos ha) with e | hlt
          · exact e.symm
          · obtain ⟨d', hd', hc'⟩ := hfree ha hlt
            rw [q2] at hd'; cases hd'; rw [hc] at hc'; cases hc'
        subst hip
        simp only at hst
        split at hst
        · rename_i l ao h1' hop
          exact plain ao hop (i + 1) (.inr ⟨rfl, ha, rfl⟩) (by rw [q10]; exact hst)
        · rename_i l f args h1' hop
          obtain ⟨g, first, captured, hfv, hcl⟩ := hst
          rw [hop] at c3
          obtain ⟨c, ef, hopc, hcal, hef, hargs⟩ := cOp_call c3
          have hf2 : opd (rest (envAt ts e1 i) (insReads d.i)) f = opd tr.e f := opd_congr fun t ht => hval t (by simp only [insReads, hop]; simp [ht])
          have ha2 : args.map (opd (rest (envAt ts e1 i) (insReads d.i))) = args.map (opd tr.e) := map_opd_congr fun t ht => hval t (by simp only [insReads, hop]; exact List.mem_append_left _ (List.mem_append_right _ ht))
          have rf := opd_vrel G hef
          rw [hf2, hfv] at rf
          simp only [vrel] at rf
          obtain ⟨fv, cv, efv, rfirst, rcap⟩ := rf
          have rargs := opds_vrels G hargs
          rw [ha2] at rargs
          have hall : vrels (heapAt ts h1 i) β (first ++ args.map (opd tr.e) ++ captured) (fv ++ c.args.map a.eval ++ cv).toList := by
            simp only [Array.toList_append, Array.toList_map]
            exact vrels_append (vrels_append rfirst rargs) rcap
          rw [← q10] at hcl
          obtain ⟨⟨fn, q1', q2', q3'⟩, hsc⟩ := SC _ _ _ _ _ hcl
          have hexec : (execOp a.eval oj).run P w = .ok (.enter g (fv ++ c.args.map a.eval ++ cv)) w := by
            unfold execOp; rw [hopc]
            simp only [resolve, hcal, efv, Deferred.ofValue, Sem.run_bind, Sem.run_pure, Result.andThen_ok, invoke, run_callFunc_of q1' q2' q3']
          refine wpIn_of_run hnd hexec ?_
          rw [Oper.uponIn_enter]
          refine enterIn_of ((hsc β w _ G.rel G.g hall).mono ?_)
          rintro e w1 ⟨β1, R1, X1, hres⟩
          obtain ⟨v', rfl, hv⟩ := hres
          simp only
          rw [← c1]
          exact hK _ _ _ _ _ (I.norm S T hfirst hin hni hpre hir (.inr ⟨rfl, ha, rfl⟩) q2 q4 R1 X1 hv c2)
        · rename_i h1' _; cases h1'
        · rename_i h1' _; cases h1'
        · exact hst.elim
      | free =>
        rw [hc] at q7; simp only [Option.some.injEq] at q7; subst q7
        have ha := hact (by rw [hc]; rfl)
        rw [hc] at q6
        simp only at hst
        split at hst
        · rename_i l ao h1' hop
          rcases Nat.eq_or_lt_of_le (hpos ha) with e | hlt
          · subst e
            exact plain ao hop (p + 1) (.inr ⟨rfl, ha, rfl⟩) (by rw [q10]; exact hst)
          · rw [hop] at q6 c3
            simp only [insClass, Option.some.injEq] at q6
            rw [← hopr ao hop] at hst
            obtain ⟨v, c, ty, vs, hrun, f1, f2, f3, f4⟩ := free_run G q6 (cOp_plain c3) hst
            refine wpIn_of_run hnd hrun ?_
            rw [Oper.uponIn_value, ← c1]
            refine hK (fun k => if k = i then w.heap.size else bl k) _ _ _ _ (I.early (bl' := fun k => if k = i then w.heap.size else bl k) (w' := w.alloc (.cells c ty)) S T hfirst hin hni hpre hlt (hfree ha hlt) (fun v ho => by omega) q2 (by simp) (fun k hk => by simp [hk]) (by simp) (fun b hb => by simp only [World.alloc, Array.getElem?_push]; rw [if_neg (by omega)]) rfl rfl (frozen_alloc_cells w _ _) c2 (fun _ tr' htr' => ?_))
            rw [q4] at htr'; cases htr'
            refine ⟨(fun h => by rw [htw] at h; cases h), fun _ => ⟨c, ty, vs, by show (w.heap.push _)[w.heap.size]? = _; simp, by rw [q10]; exact f1, f2, f3, ?_⟩⟩
            rw [q10]; exact f4
        · rename_i l f args h1' hop
          rw [hop] at q6
          simp only [insClass, Option.some.injEq] at q6
          cases q6
        · rename_i h1' _; cases h1'
        · rename_i h1' _; cases h1'
        · exact hst.elim
  · -- the last one: it panics
    have hpan : ∃ v, o = .pan v := by
      cases ho : o with
      | fin => rw [ho] at hir; simp only [reach] at hir; omega
      | pan v => exact ⟨v, rfl⟩
    obtain ⟨v, ho⟩ := hpan
    obtain ⟨pa, pnf⟩ := pan_act S T ho
    rw [← hir] at pa pnf
    have hip : i = p := by
      rcases Nat.eq_or_lt_of_le (hpos pa) with e | hlt
      · exact e.symm
      · exact absurd (hfree pa hlt) pnf
    obtain ⟨oj, d, k, tr, q1, q2, q3, q4, q5, q6, q7, q8, q9, hpk, q11, q12⟩ := pan_at S T ho
    rw [← hir] at q1 q2 q3 q4 q7 q11 q12
    subst hip
    obtain ⟨c1, c2, c3, c4, c5⟩ := cInstr_parts q5
    have hnd := cIOp_nd c3
    rw [q1]
    simp only
    have G := I.good S T hf (Nat.le_of_eq hir) hin hni hpre q2
    have hval : ∀ t, t ∈ insReads d.i → (rest (envAt ts e1 i) (insReads d.i)).val t = tr.e.val t := fun t ht => by rw [rest_val, if_pos ht, q12]
    have hw : wanted (rest (envAt ts e1 i) (insReads d.i)) d.i.guard = some tr.w := by
      rw [wanted_congr (e2 := tr.e) fun t b hg => hval t (by simp only [insReads, hg]; simp)]; exact q9
    have hwd := wanted_of G c4 I.tmps c5 hw rfl
    obtain ⟨htw, hk, f, args, g, first, captured, hop, hfv, hcl⟩ := hpk
    rw [q8] at hop
    rw [if_pos (by rw [hwd, htw])]
    rw [hop] at c3
    obtain ⟨c, ef, hopc, hcal, hef, hargs⟩ := cOp_call c3
    have hf2 : opd (rest (envAt ts e1 i) (insReads d.i)) f = opd tr.e f := opd_congr fun t ht => hval t (by simp only [insReads, hop]; simp [ht])
    have ha2 : args.map (opd (rest (envAt ts e1 i) (insReads d.i))) = args.map (opd tr.e) := map_opd_congr fun t ht => hval t (by simp only [insReads, hop]; exact List.mem_append_left _ (List.mem_append_right _ ht))
    have rf := opd_vrel G hef
    rw [hf2, hfv] at rf
    simp only [vrel] at rf
    obtain ⟨fv, cv, efv, rfirst, rcap⟩ := rf
    have rargs := opds_vrels G hargs
    rw [ha2] at rargs
    have hall : vrels (heapAt ts h1 i) β (first ++ args.map (opd tr.e) ++ captured) (fv ++ c.args.map a.eval ++ cv).toList := by
      simp only [Array.toList_append, Array.toList_map]
      exact vrels_append (vrels_append rfirst rargs) rcap
    rw [← q11] at hcl
    obtain ⟨⟨fn, q1', q2', q3'⟩, hsc⟩ := SC _ _ _ _ _ hcl
    have hexec : (execOp a.eval oj).run P w = .ok (.enter g (fv ++ c.args.map a.eval ++ cv)) w := by
      unfold execOp; rw [hopc]
      simp only [resolve, hcal, efv, Deferred.ofValue, Sem.run_bind, Sem.run_pure, Result.andThen_ok, invoke, run_callFunc_of q1' q2' q3']
    refine wpIn_of_run hnd hexec ?_
    rw [Oper.uponIn_enter]
    refine enterIn_of ((hsc β w _ G.rel G.g hall).mono ?_)
    rintro e w1 ⟨β1, R1, X1, hres⟩
    obtain ⟨v', rfl, hv⟩ := hres
    refine hQ v ho _ _ _ ⟨β1, ⟨R1, fun t => ?_, ?_⟩, I.ext.trans X1, I.dfr, I.tmps, v', rfl, hv⟩
    · by_cases hwt : ∃ d ∈ dis, d.i.dst = some t
      · rw [wiped_val dis e0 t hwt]; simp [vrel]
      · rw [wiped_val_ne dis e0 t hwt]
        rcases I.env t with ⟨j, j1, j2, j3, j4⟩ | ⟨f, f1, f2, f3, f4, f5⟩
        · have := env_same S T (t := t) j 0 (Nat.zero_le _) j1 (fun x _ _ hx => hwt (wrt_dis S hx))
          rw [T.e0] at this
          rw [← this]
          exact vrel.mono X1.ext j4
        · exact absurd (wrt_dis S f5) hwt
    · simp only; rw [X1.gl]; exact I.gg
  · -- behind the last one: a bare one
    have hpan : ∃ v, o = .pan v := by
      cases ho : o with
      | fin => rw [ho] at hir; simp only [reach] at hir; omega
      | pan v => exact ⟨v, rfl⟩
    obtain ⟨v, ho⟩ := hpan
    obtain ⟨od, dd, kk, tt, p1, p2, p3, p4, p5, p6, p7, p8, p9, hpk, p11, p12⟩ := pan_at S T ho
    obtain ⟨oj, d, k, q1, q2, q5, q6, q7, q8⟩ := S.at hin
    have hlast : lastOf ds ds.length (reach ops ts o) = true := by
      have hk := hpk.2.1
      unfold dkOf at p7
      split at p7
      · simp only [Option.some.injEq] at p7; subst p7; simp at hk
      · simp only [Option.some.injEq] at p7; subst p7; simp at hk
      · simp only [Option.some.injEq] at p7; subst p7; simpa using hk
    simp only [lastOf, List.all_eq_true, List.mem_range, Option.all_eq_true, Bool.or_eq_true, Bool.not_eq_true', decide_eq_false_iff_not] at hlast
    have hb := hlast i (by rw [S.len]; exact hin) d q2
    have hbare : bareAlloc d = true := by
      rcases hb with (hb | hb) | hb
      · exact absurd hir hb
      · exact absurd (pbf_listed S I.closed i hin hpre (reach ops ts o) (by omega) ⟨d, q2, hb⟩) (I.nolast v ho)
      · exact hb
    unfold bareAlloc at hbare
    split at hbare
    · rename_i z hop hg
      obtain ⟨c1, c2, c3, c4, c5⟩ := cInstr_parts q5
      have hnd := cIOp_nd c3
      rw [hop] at c3 q6
      simp only [insClass, opClass, Option.some.injEq] at q6
      have hfr : frA ds i := ⟨d, q2, q6.symm⟩
      have hpL := I.pL
      rw [q1]
      simp only
      have G : Good P (heapAt ts h1 p) β w (.nil : Env) a.tmps := ⟨I.rel, fun t => by
        have : Env.val Tr.nil t = .undef := rfl
        rw [this]; simp [vrel], I.gg⟩
      have hwd := wanted_of G c4 I.tmps c5 (b := true) (by rw [hg]; rfl) rfl
      rw [if_pos hwd]
      obtain ⟨v1, c, ty, vs, hrun, f1, f2, f3, f4⟩ := free_run G (hx := heapAt ts h1 p) (ao := .alloc z) rfl (cOp_plain c3) rfl
      refine wpIn_of_run hnd hrun ?_
      rw [Oper.uponIn_value, ← c1]
      exact hK (fun k => if k = i then w.heap.size else bl k) _ _ _ _ (I.early (bl' := fun k => if k = i then w.heap.size else bl k) (w' := w.alloc (.cells c ty)) S T hfirst hin hni hpre (by omega) hfr (fun v ho => by omega) q2 (by simp) (fun k hk => by simp [hk]) (by simp) (fun b hb => by simp only [World.alloc, Array.getElem?_push]; rw [if_neg (by omega)]) rfl rfl (frozen_alloc_cells w _ _) c2 (fun h => by omega))
    · cases hbare

end
end Go.AM
