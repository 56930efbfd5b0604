/-
  AM, part 18: regions whose order is open: what holds while the model does them in whatever order.
-/
import Derived.Test.YtedomhceacongaaAmDraw1
namespace Go.AM
set_option linter.unusedVariables false
set_option linter.unusedSimpArgs false

/-- An existing block becomes an object. -/
theorem Rel.adopt {h0 : AHeap} {β0 : Pl} {w0 : World} {h : AHeap} {β : Pl} {w : World} (R : Rel h β w) (X : Ext h0 β0 w0 h β w) {b : Nat} {c : Array Value} {ty : TypeId} {vs : List AVal}
    (hb : w.heap[b]? = some (.cells c ty (0, 0))) (hne : ∀ id, id < h.n → (h.get id).real = true → (β id).b ≠ b) (hb0 : w0.heap.size ≤ b) (hl : vs.length ≤ c.size) (hr : ∀ h β, vrels h β vs (c.toList.take vs.length)) :
    Rel (h.push (.cells 0 false vs)) (updP β h.n ⟨b, 0, vs.length⟩) w ∧ Ext h0 β0 w0 (h.push (.cells 0 false vs)) (updP β h.n ⟨b, 0, vs.length⟩) w := by
  have hx : HExt h β (h.push (.cells 0 false vs)) (updP β h.n ⟨b, 0, vs.length⟩) := by
    refine ⟨by simp, fun j hj => ?_⟩
    have e : j ≠ h.n := by omega
    have : (h.push (.cells 0 false vs)).gen j = h.gen j := by unfold AHeap.gen; rw [AHeap.get_push_ne h _ e]
    rw [this]; exact ⟨Nat.le_refl _, fun _ => updP_ne β _ e⟩
  refine ⟨⟨fun j hj => ?_, fun i j hi hj hij hio hjr => ?_, fun j hj => ?_, fun j hj => ?_⟩, ⟨X.ext.trans hx, X.size, X.keep, fun j hj ho => ?_, fun j hj ho => ?_, X.os, X.out, X.gl, X.fz⟩⟩
  · by_cases e : j = h.n
    · subst e; rw [AHeap.get_push_same, updP_same]
      exact ⟨c, ty, (0, 0), hb, fun _ => rfl, by simpa using hl, Nat.le_refl _, by simpa using hr _ _⟩
    · have hj' : j < h.n := by simp at hj; omega
      rw [AHeap.get_push_ne h _ e, updP_ne β _ e]
      exact (R.obj j hj').mono hx fun hjr => rfl
  · simp only [AHeap.n_push] at hi hj
    by_cases ei : i = h.n
    · subst ei
      have ej : j ≠ h.n := Ne.symm hij
      rw [AHeap.get_push_ne h _ ej] at hjr
      rw [updP_same, updP_ne β _ ej]
      exact fun e => hne j (by omega) hjr e.symm
    · rw [AHeap.get_push_ne h _ ei] at hio
      by_cases ej : j = h.n
      · subst ej
        rw [updP_same, updP_ne β _ ei]
        exact hne i (by omega) (AObj.real_of_own hio)
      · rw [AHeap.get_push_ne h _ ej] at hjr
        rw [updP_ne β _ ei, updP_ne β _ ej]
        exact R.inj i j (by omega) (by omega) hij hio hjr
  · simp only [AHeap.n_push] at hj
    rw [AHeap.get_push_ne h _ (by omega)]; exact R.top j (by omega)
  · obtain ⟨g1, g2, g3, g4, g5⟩ := R.glob j hj
    have e : j ≠ h.n := by omega
    have e1 : (h.push (.cells 0 false vs)).gen j = h.gen j := by unfold AHeap.gen; rw [AHeap.get_push_ne h _ e]
    rw [AHeap.get_push_ne h _ e, e1, updP_ne β _ e]
    exact ⟨by simp; omega, g2, g3, g4, g5⟩
  · rw [AHeap.get_push_ne h _ (by have := X.ext.1; omega)]; exact X.ro j hj ho
  · by_cases e : j = h.n
    · subst e
      rw [updP_same]; exact .inr hb0
    · rw [AHeap.get_push_ne h _ e] at ho
      rw [updP_ne β _ e]
      exact X.own j (by simp at hj; omega) ho

def rest (e : Env) : List Nat → Env
  | [] => .nil
  | t :: l => Tr.set (rest e l) t (e.val t)
theorem rest_val (e : Env) : ∀ (l : List Nat) (t : Nat), (rest e l).val t = if t ∈ l then e.val t else .undef
  | [], t => rfl
  | s :: l, t => by
    have ih := rest_val e l t
    unfold Env.val at ih ⊢
    simp only [rest, Tr.get_set]
    by_cases h : t = s
    · subst h; simp [Env.val]
    · rw [if_neg h]
      by_cases hm : t ∈ l
      · rw [if_pos hm] at ih; rw [if_pos (List.mem_cons_of_mem _ hm)]; exact ih
      · rw [if_neg hm] at ih; rw [if_neg (by simp [h, hm])]; exact ih

theorem put_val (e : Env) (dst : Option Nat) (v : AVal) (t : Nat) : (put e dst v).val t = if dst = some t then v else e.val t := by
  cases dst with
  | none => simp [put]
  | some d =>
    simp only [put, Env.val, Tr.get_set, Option.some.injEq]
    by_cases h : t = d
    · subst h; simp
    · rw [if_neg h, if_neg (Ne.symm h)]

theorem put_tmps {a : Act} {dst : Option Nat} {v : Value} {t : Nat} : dst ≠ some t → (a.put dst v).tmps.getD t undef = a.tmps.getD t undef := by
  intro h
  cases dst with
  | none => rfl
  | some d =>
    simp only [ne_eq, Option.some.injEq] at h
    simp only [Act.put, Array.getD_eq_getD_getElem?, Array.getElem?_setIfInBounds, if_neg h]
theorem put_tmps_same {a : Act} {t : Nat} {v : Value} (h : t < a.tmps.size) : (a.put (some t) v).tmps.getD t undef = v := by
  simp only [Act.put, Array.getD_eq_getD_getElem?, Array.getElem?_setIfInBounds, if_pos, if_pos h]; rfl

section
variable {P : Program} {N : Nat} {ops : Array Oper} {ds : List DI} {dis : List DInstr} {r : Rec} {e0 : Env} {h0 : AHeap} {ts : List TS} {o : TE} {e1 : Env} {h1 : AHeap} {β0 : Pl} {w0 : World} {dfs : List Deferred}

def isA (ds : List DI) (i : Nat) : Prop := ∃ d, ds[i]? = some d ∧ d.c.isAct = true
def wrt (ds : List DI) (i t : Nat) : Prop := ∃ d, ds[i]? = some d ∧ d.i.dst = some t
def pbf (ds : List DI) (i j : Nat) : Prop := ∃ d, ds[j]? = some d ∧ bitOf d.pre i = true
def frA (ds : List DI) (i : Nat) : Prop := ∃ d, ds[i]? = some d ∧ d.c = .free

/-- How far the run in the text's order has come. -/
def reach (ops : Array Oper) (ts : List TS) : TE → Nat
  | .fin => ops.size
  | .pan _ => ts.length - 1

theorem actsAhead_lt {ds : List DI} {i k x : Nat} (h1 : i ≤ x) (h2 : x < k) (hx : isA ds x) : actsAhead ds i < actsAhead ds k := by
  obtain ⟨d, hd, hc⟩ := hx
  have hxl : x < ds.length := (List.getElem?_eq_some_iff.1 hd).1
  have hle : ∀ a b, a ≤ b → actsAhead ds a ≤ actsAhead ds b := by
    intro a b hab
    unfold actsAhead
    have : (ds.take a) = (ds.take b).take a := by rw [List.take_take, Nat.min_eq_left hab]
    rw [this]
    exact List.Sublist.length_le (List.Sublist.filter _ (List.take_sublist _ _))
  have hstep : actsAhead ds (x + 1) = actsAhead ds x + 1 := by
    unfold actsAhead
    rw [List.take_add_one, hd]
    simp [List.filter_append, hc]
  have a1 := hle i x h1
  have a2 := hle (x + 1) k h2
  omega

/-- What is known of an act that was done ahead of its turn. -/
def Pend (ops : Array Oper) (ds : List DI) (ts : List TS) (h1 : AHeap) (w0 : World) (L : Nat) (listed : Array Bool) (bl : Nat → Nat) (a : Act) (w : World) (p : Nat) (β : Pl) (f : Nat) : Prop :=
  frA ds f ∧ (∀ x t, f < x → x < ops.size → wrt ds f t → wrt ds x t → ¬ Li listed x) ∧ (f < L → ∀ tr, ts[f]? = some tr →
    (tr.w = false → ∀ t, wrt ds f t → a.tmps.getD t undef = undef) ∧
    (tr.w = true → ∃ c ty vs, w.heap[bl f]? = some (.cells c ty (0, 0)) ∧ w0.heap.size ≤ bl f ∧ (∀ id, id < (heapAt ts h1 p).n → ((heapAt ts h1 p).get id).real = true → (β id).b ≠ bl f) ∧
      heapAt ts h1 (f + 1) = (heapAt ts h1 f).push (.cells 0 false vs) ∧ vs.length ≤ c.size ∧ (∀ h β, vrels h β vs (c.toList.take vs.length)) ∧
      ∀ t, wrt ds f t → ∀ h2 β2, (heapAt ts h1 f).n < h2.n → h2.gen (heapAt ts h1 f).n = 0 → β2 (heapAt ts h1 f).n = ⟨bl f, 0, vs.length⟩ → vrel h2 β2 tr.v (a.tmps.getD t undef)))

structure Inv (P : Program) (N : Nat) (ops : Array Oper) (ds : List DI) (ts : List TS) (o : TE) (e1 : Env) (h1 : AHeap) (h0 : AHeap) (β0 : Pl) (w0 : World) (dfs : List Deferred) (bl : Nat → Nat) (listed : Array Bool) (a : Act) (w : World) (p : Nat) (β : Pl) : Prop where
  sz : listed.size = ops.size
  pL : p ≤ reach ops ts o
  acts : ∀ i, i < p → isA ds i → Li listed i
  nolast : ∀ v, o = .pan v → ¬ Li listed (reach ops ts o)
  rel : Rel (heapAt ts h1 p) β w
  gg : (heapAt ts h1 p).g = P.globals.size
  ext : Ext h0 β0 w0 (heapAt ts h1 p) β w
  closed : ∀ j oj, ops[j]? = some oj → Li listed j → ∀ m ∈ bindsOn oj, Li listed m
  env : ∀ t, (∃ i, i ≤ reach ops ts o ∧ (∀ x, x < i → wrt ds x t → Li listed x) ∧ (∀ x, i ≤ x → x < ops.size → wrt ds x t → ¬ Li listed x) ∧ vrel (heapAt ts h1 p) β ((envAt ts e1 i).val t) (a.tmps.getD t undef)) ∨
    (∃ f, p ≤ f ∧ f < ops.size ∧ isA ds f ∧ Li listed f ∧ wrt ds f t)
  pend : ∀ f, p ≤ f → f < ops.size → isA ds f → Li listed f → Pend ops ds ts h1 w0 (reach ops ts o) listed bl a w p β f
  dist : ∀ f g, p ≤ f → p ≤ g → f < reach ops ts o → g < reach ops ts o → Li listed f → Li listed g → (∃ t, ts[f]? = some t ∧ t.w = true) → (∃ t, ts[g]? = some t ∧ t.w = true) → isA ds f → isA ds g → f ≠ g → bl f ≠ bl g
  dfr : a.defers = dfs
  tmps : N ≤ a.tmps.size

/-- Whoever must come ahead of one that is done, or may be done now, is done. -/
theorem pbf_listed (S : SOk P N ops ds dis) {listed : Array Bool} (hc : ∀ j oj, ops[j]? = some oj → Li listed j → ∀ m ∈ bindsOn oj, Li listed m) :
    ∀ (j : Nat), j < ops.size → (∀ oj, ops[j]? = some oj → ∀ m ∈ bindsOn oj, Li listed m) → ∀ i, i < ops.size → pbf ds i j → Li listed i := by
  intro j
  induction j using Nat.strongRecOn with
  | _ j ih =>
    intro hj hm i hi hp
    obtain ⟨oj, d, k, ho, hd, _⟩ := S.at hj
    obtain ⟨d', hd', hb⟩ := hp
    rw [hd] at hd'
    cases hd'
    obtain ⟨h1, m, hmm, h2⟩ := S.bit ho hd hi hb
    rcases h2 with h2 | ⟨h2, e, he1, he2⟩
    · subst h2; exact hm oj ho m hmm
    · have hml := hm oj ho m hmm
      exact ih m h2 (by omega) (fun om hom x hx => hc m om hom hml x hx) i hi ⟨e, he1, he2⟩

theorem SOk.pair (S : SOk P N ops ds dis) {i j : Nat} (hij : i < j) (hj : j < ops.size) : pbf ds i j ∨
    ((∀ t, wrt ds i t → (∀ d, ds[j]? = some d → t ∉ insReads d.i) ∧ ¬ wrt ds j t) ∧ (∀ t, wrt ds j t → ∀ d, ds[i]? = some d → t ∉ insReads d.i) ∧ (isA ds i → isA ds j → frA ds j)) := by
  obtain ⟨oj, y, ky, ho, hy, _⟩ := S.at hj
  obtain ⟨oi, x, kx, hoi, hx, _⟩ := S.at (show i < ops.size by omega)
  have hp := (S.all ho hy).2.2 i x hij hx
  simp only [pairOk, Bool.or_eq_true, Bool.and_eq_true] at hp
  rcases hp with hp | ⟨⟨p1, p2⟩, p3⟩
  · exact .inl ⟨y, hy, hp⟩
  · right
    refine ⟨fun t ht => ?_, fun t ht d hd => ?_, fun ha hb => ?_⟩
    · obtain ⟨d, hd, hdt⟩ := ht
      rw [hx] at hd; cases hd
      rw [hdt] at p1
      simp only [Bool.and_eq_true, Bool.not_eq_true', bne_iff_ne, ne_eq] at p1
      refine ⟨fun d hd hm => ?_, fun ⟨d, hd, hdt'⟩ => ?_⟩
      · rw [hy] at hd; cases hd
        have := p1.1
        simp at this
        exact this hm
      · rw [hy] at hd; cases hd
        exact p1.2 hdt'
    · obtain ⟨d', hd', hdt⟩ := ht
      rw [hy] at hd'; cases hd'
      rw [hx] at hd; cases hd
      rw [hdt] at p2
      simpa using p2
    · obtain ⟨d, hd, hda⟩ := ha
      rw [hx] at hd; cases hd
      obtain ⟨d, hd, hdb⟩ := hb
      rw [hy] at hd; cases hd
      rcases p3 with p3 | p3
      · rw [hda, hdb] at p3; simp at p3
      · exact ⟨y, hy, by simpa using p3⟩

theorem SOk.free (S : SOk P N ops ds dis) {f y c : Nat} (hf : frA ds f) (hy : y < ops.size) (hp : pbf ds f y) (hc : c < f) (hca : isA ds c) : pbf ds c y := by
  obtain ⟨oy, d, k, ho, hd, _⟩ := S.at hy
  have := (S.all ho hd).2.1
  simp only [freeOk, List.all_eq_true, List.mem_range, Option.all_eq_true, Bool.or_eq_true, Bool.not_eq_true', Bool.and_eq_false_iff] at this
  obtain ⟨x, hx, hxf⟩ := hf
  obtain ⟨d', hd', hb⟩ := hp
  rw [hd] at hd'; cases hd'
  have h1 := this f (List.getElem?_eq_some_iff.1 hx).1 x hx
  rcases h1 with h1 | h1
  · rcases h1 with h1 | h1
    · rw [hxf] at h1; simp at h1
    · rw [hb] at h1; cases h1
  · obtain ⟨z, hz, hza⟩ := hca
    have h2 := h1 c hc z hz
    rcases h2 with h2 | h2
    · rw [hza] at h2; cases h2
    · exact ⟨d, hd, h2⟩

end
end Go.AM
