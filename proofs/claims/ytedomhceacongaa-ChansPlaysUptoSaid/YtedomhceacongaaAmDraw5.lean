/-
  AM, part 21: one more instruction of a region whose order is open: what holds goes on to hold.
-/
import Derived.Test.YtedomhceacongaaAmDraw4
namespace Go.AM
set_option linter.unusedVariables false
set_option linter.unusedSimpArgs false

section
variable {P : Program} {N : Nat} {ops : Array Oper} {ds : List DI} {dis : List DInstr} {r : Rec} {e0 : Env} {h0 : AHeap} {ts : List TS} {o : TE} {e1 : Env} {h1 : AHeap} {β0 : Pl} {w0 : World} {dfs : List Deferred}
  (S : SOk P N ops ds dis) (T : TrOk r dis e0 h0 ts o e1 h1)
variable {bl : Nat → Nat} {listed : Array Bool} {a : Act} {w : World} {p : Nat} {β : Pl}

/-- The first act that isn't done stands at p. -/
def First (ops : Array Oper) (ds : List DI) (o : TE) (listed : Array Bool) (p : Nat) : Prop := (o = .fin ∧ p = ops.size) ∨ (isA ds p ∧ ¬ Li listed p)

 include S T in
theorem pan_at {v : AVal} (ho : o = .pan v) : ∃ (oj : Oper) (d : DI) (k : DInstr) (t : TS), ops[reach ops ts o]? = some oj ∧ ds[reach ops ts o]? = some d ∧ dis[reach ops ts o]? = some k ∧ ts[reach ops ts o]? = some t ∧ cInstr P N ops oj = some d.i ∧ insClass d.i.op = some d.c ∧
    dkOf ds ds.length (reach ops ts o) d = some k ∧ k.i = d.i ∧ wanted t.e d.i.guard = some t.w ∧ PanOk r k t v h1 ∧ heapAt ts h1 (reach ops ts o) = t.h ∧ envAt ts e1 (reach ops ts o) = t.e := by
  obtain ⟨j, k', t, q1, q2, q3, q4⟩ := T.pan v ho
  have hr : reach ops ts o = j := by rw [ho]; simp only [reach]; omega
  rw [hr]
  have hjn : j < ops.size := by
    have := (List.getElem?_eq_some_iff.1 q2).1
    rw [S.len2] at this; exact this
  obtain ⟨oj, d, k, h1, h2, h3, h4, h5, h6⟩ := S.at hjn
  have hkk : k = k' := Option.some.inj (h6.symm.trans q2)
  subst hkk
  have hki : k.i = d.i := by
    unfold dkOf at h5
    split at h5 <;> (simp only [Option.some.injEq] at h5; subst h5; rfl)
  exact ⟨oj, d, k, t, h1, h2, h6, q3, h3, h4, h5, hki, by rw [← hki]; exact T.wt j k t h6 q3, q4, by simp [heapAt, q3], by simp [envAt, q3]⟩

 include S T in
theorem pan_act {v : AVal} (ho : o = .pan v) : isA ds (reach ops ts o) ∧ ¬ frA ds (reach ops ts o) := by
  obtain ⟨oj, d, k, t, q1, q2, q3, q4, q5, q6, q7, q8, q9, ⟨_, _, f, args, _, _, _, hop, _⟩, _⟩ := pan_at S T ho
  rw [q8] at hop
  rw [hop] at q6
  simp only [insClass, Option.some.injEq] at q6
  refine ⟨⟨d, q2, by rw [← q6]; rfl⟩, fun ⟨d', hd', hc⟩ => ?_⟩
  rw [q2] at hd'; cases hd'
  rw [← q6] at hc; cases hc

 include S in
theorem isA_lt {i : Nat} (h : isA ds i) : i < ops.size := by
  obtain ⟨d, hd, _⟩ := h; rw [← S.len]; exact (List.getElem?_eq_some_iff.1 hd).1
 include S in
theorem wrt_lt {i t : Nat} (h : wrt ds i t) : i < ops.size := by
  obtain ⟨d, hd, _⟩ := h; rw [← S.len]; exact (List.getElem?_eq_some_iff.1 hd).1
theorem frA_isA {i : Nat} (h : frA ds i) : isA ds i := by
  obtain ⟨d, hd, hc⟩ := h; exact ⟨d, hd, by rw [hc]; rfl⟩

 include S in
/-- An act that is done ahead of its turn, and one that may be done now. -/
theorem Inv.apart (I : Inv P N ops ds ts o e1 h1 h0 β0 w0 dfs bl listed a w p β) (hfirst : First ops ds o listed p) {i : Nat} (hin : i < ops.size) (hni : ¬ Li listed i)
    (hpre : ∀ oi, ops[i]? = some oi → ∀ m ∈ bindsOn oi, Li listed m) {f : Nat} (hpf : p ≤ f) (hfa : isA ds f) (hfl : Li listed f) :
    (f < i → ¬ pbf ds f i) ∧ ∀ t, wrt ds f t → ¬ wrt ds i t := by
  have hfn := isA_lt S hfa
  have hfi : f ≠ i := fun e => hni (e ▸ hfl)
  have h1 : f < i → ¬ pbf ds f i := by
    intro hlt hp
    have hpe := I.pend f hpf hfn hfa hfl
    rcases hfirst with ⟨_, e⟩ | ⟨hpa, hpl⟩
    · omega
    · have hne : f ≠ p := fun e => hpl (e ▸ hfl)
      have := S.free hpe.1 hin hp (show p < f by omega) hpa
      exact hpl (pbf_listed S I.closed i hin hpre p (isA_lt S hpa) this)
  refine ⟨h1, fun t hf hi => ?_⟩
  rcases Nat.lt_or_gt_of_ne hfi with hlt | hgt
  · rcases S.pair hlt hin with hp | ⟨hp, _, _⟩
    · exact h1 hlt hp
    · exact (hp t hf).2 hi
  · rcases S.pair hgt hfn with hp | ⟨hp, _, _⟩
    · exact hni (pbf_listed S I.closed f hfn (fun oj ho m hm => I.closed f oj ho hfl m hm) i hin hp)
    · exact (hp t hi).2 hf


 include S T in
theorem Inv.first (I : Inv P N ops ds ts o e1 h1 h0 β0 w0 dfs bl listed a w p β) (h : p = reach ops ts o ∨ (isA ds p ∧ ¬ Li listed p)) : First ops ds o listed p := by
  rcases h with h | h
  · cases ho : o with
    | fin => rw [ho] at h; exact .inl ⟨rfl, h⟩
    | pan v => right; subst h; exact ⟨(pan_act S T ho).1, I.nolast v ho⟩
  · exact .inr h

theorem getD_heap {w w' : World} {b : Nat} (h : w'.heap[b]? = w.heap[b]?) : w'.heap[b]? = w.heap[b]? := h

 include S T in
/-- One that came in its turn, or whose place is of no matter. -/
theorem Inv.norm (I : Inv P N ops ds ts o e1 h1 h0 β0 w0 dfs bl listed a w p β) (hfirst : First ops ds o listed p) {i : Nat} (hin : i < ops.size) (hni : ¬ Li listed i)
    (hpre : ∀ oi, ops[i]? = some oi → ∀ m ∈ bindsOn oi, Li listed m) (hir : i < reach ops ts o) {p' : Nat} (hp' : (¬ isA ds i ∧ p' = p) ∨ (i = p ∧ isA ds i ∧ p' = p + 1)) {β' : Pl} {w' : World} {d : DI} (hd : ds[i]? = some d) {tr : TS} (htr : ts[i]? = some tr)
    (R : Rel (heapAt ts h1 p') β' w') (X : Ext (heapAt ts h1 p) β w (heapAt ts h1 p') β' w') {v : Value} (hv : vrel (heapAt ts h1 p') β' tr.v v) (hdN : ∀ t, d.i.dst = some t → t < N) :
    Inv P N ops ds ts o e1 h1 h0 β0 w0 dfs bl (listed.setIfInBounds i true) (a.put d.i.dst v) w' p' β' := by
  have hLi := Li_set (listed := listed) (i := i) (by rw [I.sz]; exact hin)
  have hstep : envAt ts e1 (i + 1) = put tr.e d.i.dst tr.v := by
    obtain ⟨oj, d', k, t, q1, q2, q3, q4, q5, q6, q7, q8, q9, q10, q11, q12⟩ := step_at S T hir
    rw [hd] at q2; cases q2
    rw [htr] at q4; cases q4
    rw [← q8]; exact q12.1
  have hpp : p ≤ p' := by rcases hp' with ⟨_, rfl⟩ | ⟨_, _, rfl⟩ <;> omega
  -- whose blocks stay
  have hblk : ∀ f, p' ≤ f → isA ds f → Li listed f → ∀ c ty, w.heap[bl f]? = some (.cells c ty (0, 0)) → (∀ id, id < (heapAt ts h1 p).n → ((heapAt ts h1 p).get id).real = true → (β id).b ≠ bl f) →
      w'.heap[bl f]? = some (.cells c ty (0, 0)) ∧ ∀ id, id < (heapAt ts h1 p').n → ((heapAt ts h1 p').get id).real = true → (β' id).b ≠ bl f := by
    intro f hf hfa hfl c ty c1 c3
    have hlt : bl f < w.heap.size := (Array.getElem?_eq_some_iff.1 c1).1
    refine ⟨by rw [X.keep (bl f) hlt fun id hid ho => c3 id hid (AObj.real_of_own ho)]; exact c1, fun id hid hr => ?_⟩
    rcases X.own id hid hr with ⟨x1, x2, x3⟩ | x3
    · rw [x3]; exact c3 id x1 x2
    · omega
  have hLf : ∀ f, p' ≤ f → isA ds f → Li (listed.setIfInBounds i true) f → Li listed f ∧ f ≠ i := by
    intro f hf hfa hfl
    have hne : f ≠ i := by
      rintro rfl
      rcases hp' with ⟨hna, _⟩ | ⟨rfl, _, rfl⟩
      · exact hna hfa
      · omega
    rcases (hLi f).1 hfl with e | e
    · exact absurd e hne
    · exact ⟨e, hne⟩
  refine { sz := by simp [I.sz], pL := ?_, acts := fun j hj ha => ?_, nolast := fun v' ho hl => ?_, rel := R, gg := by rw [X.gl]; exact I.gg, ext := I.ext.trans X, closed := fun j oj hoj hl m hm => ?_, env := fun t => ?_, pend := fun f hf hfn hfa hfl => ?_, dist := fun f g hf hg hfr hgr hfl hgl hft hgt hfa hga hfg => ?_, dfr := ?_, tmps := ?_ }
  · rcases hp' with ⟨_, rfl⟩ | ⟨rfl, _, rfl⟩
    · exact I.pL
    · omega
  · rcases hp' with ⟨_, rfl⟩ | ⟨rfl, _, rfl⟩
    · exact (hLi j).2 (.inr (I.acts j hj ha))
    · by_cases e : j = i
      · exact (hLi j).2 (.inl e)
      · exact (hLi j).2 (.inr (I.acts j (by omega) ha))
  · rcases (hLi _).1 hl with e | e
    · omega
    · exact I.nolast v' ho e
  · rcases (hLi j).1 hl with e | e
    · subst e; exact (hLi m).2 (.inr (hpre oj hoj m hm))
    · exact (hLi m).2 (.inr (I.closed j oj hoj e m hm))
  · by_cases hdt : d.i.dst = some t
    · left
      have hwi : wrt ds i t := ⟨d, hd, hdt⟩
      refine ⟨i + 1, by omega, fun x hx hwx => ?_, fun x hx hxn hwx hl => ?_, ?_⟩
      · by_cases e : x = i
        · exact (hLi x).2 (.inl e)
        · rcases S.pair (show x < i by omega) hin with hp | ⟨hp, _, _⟩
          · exact (hLi x).2 (.inr (pbf_listed S I.closed i hin hpre x (by omega) hp))
          · exact absurd hwi (hp t hwx).2
      · have hl' : Li listed x := by
          rcases (hLi x).1 hl with e | e
          · omega
          · exact e
        rcases S.pair (show i < x by omega) hxn with hp | ⟨hp, _, _⟩
        · exact hni (pbf_listed S I.closed x hxn (fun oj ho m hm => I.closed x oj ho hl' m hm) i hin hp)
        · exact (hp t hwi).2 hwx
      · rw [hstep, put_val, if_pos hdt, hdt, put_tmps_same (by have := I.tmps; have := hdN t hdt; omega)]
        exact hv
    · have hnw : ¬ wrt ds i t := by rintro ⟨d', hd', hdt'⟩; rw [hd] at hd'; cases hd'; exact hdt hdt'
      rw [put_tmps hdt]
      rcases I.env t with ⟨j, j1, j2, j3, j4⟩ | ⟨f, f1, f2, f3, f4, f5⟩
      · refine .inl ⟨j, j1, fun x hx hwx => (hLi x).2 (.inr (j2 x hx hwx)), fun x hx hxn hwx hl => ?_, vrel.mono X.ext j4⟩
        rcases (hLi x).1 hl with e | e
        · subst e; exact hnw hwx
        · exact j3 x hx hxn hwx e
      · refine .inr ⟨f, ?_, f2, f3, (hLi f).2 (.inr f4), f5⟩
        rcases hp' with ⟨_, rfl⟩ | ⟨rfl, _, rfl⟩
        · exact f1
        · have : f ≠ i := fun e => hni (e ▸ f4)
          omega
  · obtain ⟨hfl', hfi⟩ := hLf f hf hfa hfl
    have hpe := I.pend f (by omega) hfn hfa hfl'
    have hap := I.apart S hfirst hin hni hpre (show p ≤ f by omega) hfa hfl'
    refine ⟨hpe.1, fun x t hx hxn hwf hwx hl => ?_, fun hfL tr' htr' => ⟨fun htw t hwf => ?_, fun htw => ?_⟩⟩
    · rcases (hLi x).1 hl with e | e
      · subst e; exact hap.2 t hwf hwx
      · exact hpe.2.1 x t hx hxn hwf hwx e
    · rw [put_tmps (by intro e; exact hap.2 t hwf ⟨d, hd, e⟩)]
      exact (hpe.2.2 hfL tr' htr').1 htw t hwf
    · obtain ⟨c, ty, vs, c1, c2, c3, c4, c5, c6, c7⟩ := (hpe.2.2 hfL tr' htr').2 htw
      obtain ⟨b1, b2⟩ := hblk f hf hfa hfl' c ty c1 c3
      refine ⟨c, ty, vs, b1, c2, b2, c4, c5, c6, fun t hwf => ?_⟩
      rw [put_tmps (by intro e; exact hap.2 t hwf ⟨d, hd, e⟩)]
      exact c7 t hwf
  · exact I.dist f g (by omega) (by omega) hfr hgr (hLf f hf hfa hfl).1 (hLf g hg hga hgl).1 hft hgt hfa hga hfg
  · have : ∀ (dst : Option Nat) (v : Value), (a.put dst v).defers = a.defers := by intro dst v; cases dst <;> rfl
    rw [this]; exact I.dfr
  · have : ∀ (dst : Option Nat) (v : Value), (a.put dst v).tmps.size = a.tmps.size := by intro dst v; cases dst <;> simp [Act.put]
    rw [this]; exact I.tmps

 include S T in
/-- One that comes ahead of its turn. -/
theorem Inv.early (I : Inv P N ops ds ts o e1 h1 h0 β0 w0 dfs bl listed a w p β) (hfirst : First ops ds o listed p) {i : Nat} (hin : i < ops.size) (hni : ¬ Li listed i)
    (hpre : ∀ oi, ops[i]? = some oi → ∀ m ∈ bindsOn oi, Li listed m) (hpi : p < i) (hif : frA ds i) (hir : ∀ v, o = .pan v → i ≠ reach ops ts o) {d : DI} (hd : ds[i]? = some d) {w' : World} {bl' : Nat → Nat} (hb1 : bl' i = w.heap.size) (hb2 : ∀ k, k ≠ i → bl' k = bl k)
    (hs : w.heap.size ≤ w'.heap.size) (hw : ∀ b, b < w.heap.size → w'.heap[b]? = w.heap[b]?) (hos : w'.os = w.os) (hout : w'.output = w.output) (hfz : ∀ a, w'.frozen? a = w.frozen? a) {v : Value} (hdN : ∀ t, d.i.dst = some t → t < N)
    (hP : i < reach ops ts o → ∀ tr, ts[i]? = some tr → (tr.w = false → v = undef) ∧ (tr.w = true → ∃ c ty vs, w'.heap[w.heap.size]? = some (.cells c ty (0, 0)) ∧ heapAt ts h1 (i + 1) = (heapAt ts h1 i).push (.cells 0 false vs) ∧ vs.length ≤ c.size ∧
      (∀ h β, vrels h β vs (c.toList.take vs.length)) ∧ ∀ h2 β2, (heapAt ts h1 i).n < h2.n → h2.gen (heapAt ts h1 i).n = 0 → β2 (heapAt ts h1 i).n = ⟨w.heap.size, 0, vs.length⟩ → vrel h2 β2 tr.v v)) :
    Inv P N ops ds ts o e1 h1 h0 β0 w0 dfs bl' (listed.setIfInBounds i true) (a.put d.i.dst v) w' p β := by
  have _ := T.le
  have hLi := Li_set (listed := listed) (i := i) (by rw [I.sz]; exact hin)
  obtain ⟨R, X⟩ := I.rel.more hs hw hos hout hfz
  have hia := frA_isA hif
  refine { sz := by simp [I.sz], pL := I.pL, acts := fun j hj ha => (hLi j).2 (.inr (I.acts j hj ha)), nolast := fun v' ho hl => ?_, rel := R, gg := I.gg, ext := I.ext.trans X, closed := fun j oj hoj hl m hm => ?_, env := fun t => ?_, pend := fun f hf hfn hfa hfl => ?_, dist := fun f g hf hg hfr hgr hfl hgl hft hgt hfa hga hfg => ?_, dfr := ?_, tmps := ?_ }
  · rcases (hLi _).1 hl with e | e
    · exact hir v' ho e.symm
    · exact I.nolast v' ho e
  · rcases (hLi j).1 hl with e | e
    · subst e; exact (hLi m).2 (.inr (hpre oj hoj m hm))
    · exact (hLi m).2 (.inr (I.closed j oj hoj e m hm))
  · by_cases hdt : d.i.dst = some t
    · exact .inr ⟨i, by omega, hin, hia, (hLi i).2 (.inl rfl), ⟨d, hd, hdt⟩⟩
    · have hnw : ¬ wrt ds i t := by rintro ⟨d', hd', hdt'⟩; rw [hd] at hd'; cases hd'; exact hdt hdt'
      rw [put_tmps hdt]
      rcases I.env t with ⟨j, j1, j2, j3, j4⟩ | ⟨f, f1, f2, f3, f4, f5⟩
      · refine .inl ⟨j, j1, fun x hx hwx => (hLi x).2 (.inr (j2 x hx hwx)), fun x hx hxn hwx hl => ?_, j4⟩
        rcases (hLi x).1 hl with e | e
        · subst e; exact hnw hwx
        · exact j3 x hx hxn hwx e
      · exact .inr ⟨f, f1, f2, f3, (hLi f).2 (.inr f4), f5⟩
  · by_cases e : f = i
    · subst e
      refine ⟨hif, fun x t hx hxn hwf hwx hl => ?_, fun hfL tr htr => ⟨fun htw t hwf => ?_, fun htw => ?_⟩⟩
      · have hl' : Li listed x := by
          rcases (hLi x).1 hl with e | e
          · omega
          · exact e
        rcases S.pair (show f < x by omega) hxn with hp | ⟨hp, _, _⟩
        · exact hni (pbf_listed S I.closed x hxn (fun oj ho m hm => I.closed x oj ho hl' m hm) f hin hp)
        · exact (hp t hwf).2 hwx
      · obtain ⟨d', hd', hdt⟩ := hwf
        rw [hd] at hd'; cases hd'
        rw [hdt, put_tmps_same (by have := I.tmps; have := hdN t hdt; omega)]
        exact (hP hfL tr htr).1 htw
      · obtain ⟨c, ty, vs, c1, c4, c5, c6, c7⟩ := (hP hfL tr htr).2 htw
        refine ⟨c, ty, vs, by rw [hb1]; exact c1, ?_, fun id hid hr => ?_, c4, c5, c6, fun t hwf => ?_⟩
        · rw [hb1]; exact I.ext.size
        · rw [hb1]
          have := (I.rel.obj id hid).lt hr
          omega
        · obtain ⟨d', hd', hdt⟩ := hwf
          rw [hd] at hd'; cases hd'
          rw [hdt, put_tmps_same (by have := I.tmps; have := hdN t hdt; omega), hb1]
          exact c7
    · have hfl' : Li listed f := by
        rcases (hLi f).1 hfl with e' | e'
        · exact absurd e' e
        · exact e'
      have hpe := I.pend f hf hfn hfa hfl'
      have hap := I.apart S hfirst hin hni hpre hf hfa hfl'
      refine ⟨hpe.1, fun x t hx hxn hwf hwx hl => ?_, fun hfL tr' htr' => ⟨fun htw t hwf => ?_, fun htw => ?_⟩⟩
      · rcases (hLi x).1 hl with e | e
        · subst e; exact hap.2 t hwf hwx
        · exact hpe.2.1 x t hx hxn hwf hwx e
      · rw [put_tmps (by intro e; exact hap.2 t hwf ⟨d, hd, e⟩)]
        exact (hpe.2.2 hfL tr' htr').1 htw t hwf
      · obtain ⟨c, ty, vs, c1, c2, c3, c4, c5, c6, c7⟩ := (hpe.2.2 hfL tr' htr').2 htw
        have hlt : bl f < w.heap.size := (Array.getElem?_eq_some_iff.1 c1).1
        refine ⟨c, ty, vs, by rw [hb2 f e, hw _ hlt]; exact c1, by rw [hb2 f e]; exact c2, by rw [hb2 f e]; exact c3, c4, c5, c6, fun t hwf => ?_⟩
        rw [put_tmps (by intro e; exact hap.2 t hwf ⟨d, hd, e⟩), hb2 f e]
        exact c7 t hwf
  · have hb : ∀ f, p ≤ f → f < reach ops ts o → Li (listed.setIfInBounds i true) f → (∃ t, ts[f]? = some t ∧ t.w = true) → isA ds f → f ≠ i → bl f < w.heap.size := by
      intro f hf hfr hfl ⟨t, ht, htw⟩ hfa hfi
      have hfl' : Li listed f := by
        rcases (hLi f).1 hfl with e' | e'
        · exact absurd e' hfi
        · exact e'
      obtain ⟨c, ty, vs, c1, _⟩ := ((I.pend f hf (isA_lt S hfa) hfa hfl').2.2 hfr t ht).2 htw
      exact (Array.getElem?_eq_some_iff.1 c1).1
    by_cases ef : f = i
    · have hgi : g ≠ i := fun e => hfg (by rw [ef, e])
      rw [ef, hb1, hb2 g hgi]
      have := hb g hg hgr hgl hgt hga hgi
      omega
    · rw [hb2 f ef]
      by_cases eg : g = i
      · rw [eg, hb1]
        have := hb f hf hfr hfl hft hfa ef
        omega
      · rw [hb2 g eg]
        have l1 : Li listed f := ((hLi f).1 hfl).resolve_left ef
        have l2 : Li listed g := ((hLi g).1 hgl).resolve_left eg
        exact I.dist f g hf hg hfr hgr l1 l2 hft hgt hfa hga hfg
  · have : ∀ (dst : Option Nat) (v : Value), (a.put dst v).defers = a.defers := by intro dst v; cases dst <;> rfl
    rw [this]; exact I.dfr
  · have : ∀ (dst : Option Nat) (v : Value), (a.put dst v).tmps.size = a.tmps.size := by intro dst v; cases dst <;> simp [Act.put]
    rw [this]; exact I.tmps

end
end Go.AM
