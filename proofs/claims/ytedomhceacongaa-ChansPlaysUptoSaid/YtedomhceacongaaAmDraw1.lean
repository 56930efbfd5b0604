/-
  AM, part 17: regions whose order is open: what the compiler has looked at, and what a run in the text's order has met.
-/
import Derived.Test.YtedomhceacongaaAmDraw0
import Derived.Orders
namespace Go.AM
set_option linter.unusedVariables false
set_option linter.unusedSimpArgs false

def envAt (ts : List TS) (e : Env) (k : Nat) : Env := match ts[k]? with
  | some t => t.e
  | none => e

def StepOk (r : Rec) (d : DInstr) (t : TS) (e2 : Env) (h2 : AHeap) : Prop :=
  e2 = put t.e d.i.dst t.v ∧ (t.w = false → t.v = .tup [] ∧ h2 = t.h) ∧
  (t.w = true → match d.k, d.i.op with
    | .act _, .op op => aop t.e t.h op = some (t.v, h2)
    | .act _, .call f args => ∃ g first captured, opd t.e f = .fn (.func g) first captured ∧ r.call g (first ++ args.map (opd t.e) ++ captured) t.h = some (.ret t.v, h2)
    | .pure, .op op => h2 = t.h ∧ ∃ h', aop t.e t.h op = some (t.v, h')
    | .read _, .op op => h2 = t.h ∧ ∃ h', aop t.e t.h op = some (t.v, h')
    | _, _ => False)

def PanOk (r : Rec) (d : DInstr) (t : TS) (v : AVal) (h2 : AHeap) : Prop :=
  t.w = true ∧ d.k = .act true ∧ ∃ f args g first captured, d.i.op = .call f args ∧ opd t.e f = .fn (.func g) first captured ∧ r.call g (first ++ args.map (opd t.e) ++ captured) t.h = some (.panic v, h2)

structure TrOk (r : Rec) (dis : List DInstr) (e : Env) (h : AHeap) (ts : List TS) (o : TE) (e' : Env) (h' : AHeap) : Prop where
  le : ts.length ≤ dis.length
  e0 : envAt ts e' 0 = e
  h0 : heapAt ts h' 0 = h
  wt : ∀ (j : Nat) (d : DInstr) (t : TS), dis[j]? = some d → ts[j]? = some t → wanted t.e d.i.guard = some t.w
  st : ∀ (j : Nat) (d : DInstr) (t : TS), dis[j]? = some d → ts[j]? = some t → (o = .fin ∨ j + 1 < ts.length) → StepOk r d t (envAt ts e' (j + 1)) (heapAt ts h' (j + 1))
  fin : o = .fin → ts.length = dis.length
  pan : ∀ v, o = .pan v → ∃ (j : Nat) (d : DInstr) (t : TS), ts.length = j + 1 ∧ dis[j]? = some d ∧ ts[j]? = some t ∧ PanOk r d t v h'

theorem TrOk.cons {r : Rec} {dis : List DInstr} {d : DInstr} {e e1 : Env} {h h1 : AHeap} {ts : List TS} {o : TE} {e' : Env} {h' : AHeap} {w : Bool} {v : AVal}
    (T : TrOk r dis e1 h1 ts o e' h') (hw : wanted e d.i.guard = some w) (hs : StepOk r d ⟨e, h, w, v⟩ e1 h1) : TrOk r (d :: dis) e h (⟨e, h, w, v⟩ :: ts) o e' h' where
  le := by simpa using T.le
  e0 := rfl
  h0 := rfl
  wt := fun j d' t hd ht => by
    cases j with
    | zero => simp at hd ht; subst hd; subst ht; exact hw
    | succ j => exact T.wt j d' t (by simpa using hd) (by simpa using ht)
  st := fun j d' t hd ht ho => by
    cases j with
    | zero =>
      simp at hd ht; subst hd; subst ht
      have e1' : envAt (⟨e, h, w, v⟩ :: ts) e' (0 + 1) = e1 := by rw [← T.e0]; rfl
      have h1' : heapAt (⟨e, h, w, v⟩ :: ts) h' (0 + 1) = h1 := by rw [← T.h0]; rfl
      rw [e1', h1']; exact hs
    | succ j =>
      have := T.st j d' t (by simpa using hd) (by simpa using ht) (by rcases ho with ho | ho; exact .inl ho; exact .inr (by simpa using ho))
      exact this
  fin := fun ho => by simpa using T.fin ho
  pan := fun v ho => by
    obtain ⟨j, d', t, h1, h2, h3, h4⟩ := T.pan v ho
    exact ⟨j + 1, d', t, by simp [h1], by simpa using h2, by simpa using h3, h4⟩

theorem tr_ok {r : Rec} : ∀ {dis : List DInstr} {e : Env} {h : AHeap} {ts : List TS} {o : TE} {e' : Env} {h' : AHeap}, trD r dis e h = some (ts, o, e', h') → TrOk r dis e h ts o e' h'
  | [], e, h, ts, o, e', h', he => by
    simp only [trD, Option.some.injEq, Prod.mk.injEq] at he
    obtain ⟨rfl, rfl, rfl, rfl⟩ := he
    exact ⟨Nat.le_refl _, rfl, rfl, fun j d t hd => by simp at hd, fun j d t hd => by simp at hd, fun _ => rfl, fun v hv => by cases hv⟩
  | d :: dis, e, h, ts, o, e', h', he => by
    unfold trD at he
    split at he
    · simp at he
    · rename_i hw
      simp only [Option.map_eq_some_iff, Prod.exists, Prod.mk.injEq] at he
      obtain ⟨ts', o', e1, h1, htr, rfl, rfl, rfl, rfl⟩ := he
      exact (tr_ok htr).cons hw ⟨rfl, fun _ => ⟨rfl, rfl⟩, fun hh => by cases hh⟩
    · rename_i hw
      split at he
      · rename_i last op hk hop
        split at he
        · rename_i v h1 ha
          simp only [Option.map_eq_some_iff, Prod.exists, Prod.mk.injEq] at he
          obtain ⟨ts', o', e1, h1', htr, rfl, rfl, rfl, rfl⟩ := he
          exact (tr_ok htr).cons hw ⟨rfl, (fun hh => by cases hh), fun _ => by rw [hk, hop]; exact ha⟩
        · simp at he
      · rename_i last f args hk hop
        split at he
        · rename_i g first captured hf
          split at he
          · rename_i v h1 ha
            simp only [Option.map_eq_some_iff, Prod.exists, Prod.mk.injEq] at he
            obtain ⟨ts', o', e1, h1', htr, rfl, rfl, rfl, rfl⟩ := he
            exact (tr_ok htr).cons hw ⟨rfl, (fun hh => by cases hh), fun _ => by rw [hk, hop]; exact ⟨g, first, captured, hf, ha⟩⟩
          · rename_i v h1 ha
            split at he
            · rename_i hl
              simp only [Option.some.injEq, Prod.mk.injEq] at he
              obtain ⟨rfl, rfl, rfl, rfl⟩ := he
              refine ⟨by simp, rfl, rfl, fun j d' t hd ht => ?_, fun j d' t hd ht ho => ?_, (fun ho => by cases ho), fun v' hv' => ?_⟩
              · cases j with
                | zero => simp at hd ht; subst hd; subst ht; exact hw
                | succ j => simp at ht
              · rcases ho with ho | ho
                · cases ho
                · simp at ho
              · simp only [TE.pan.injEq] at hv'
                subst hv'
                exact ⟨0, d, _, rfl, rfl, rfl, rfl, by rw [hk, hl], f, args, g, first, captured, hop, hf, ha⟩
            · simp at he
          · simp at he
        · simp at he
      · rename_i op hop hk1
        split at he
        · rename_i v h1 ha
          simp only [Option.map_eq_some_iff, Prod.exists, Prod.mk.injEq] at he
          obtain ⟨ts', o', e1, h1', htr, rfl, rfl, rfl, rfl⟩ := he
          refine (tr_ok htr).cons hw ⟨rfl, (fun hh => by cases hh), fun _ => ?_⟩
          rw [hop]
          cases hk : d.k with
          | pure => exact ⟨rfl, _, ha⟩
          | read qs => exact ⟨rfl, _, ha⟩
          | act last => exact (hk1 last hk).elim
        · simp at he
      · simp at he

theorem readsOk_at {all : List TS} {h : AHeap} : ∀ {dis : List DInstr} {ts : List TS}, readsOk all h dis ts = true → ∀ (j : Nat) (d : DInstr) (t : TS), dis[j]? = some d → ts[j]? = some t → readOk all h d t = true
  | [], ts, hr, j, d, t, hd, ht => by simp at hd
  | d0 :: dis, [], hr, j, d, t, hd, ht => by simp at ht
  | d0 :: dis, t0 :: ts, hr, j, d, t, hd, ht => by
    simp only [readsOk, Bool.and_eq_true] at hr
    cases j with
    | zero => simp at hd ht; subst hd; subst ht; exact hr.1
    | succ j => exact readsOk_at hr.2 j d t (by simpa using hd) (by simpa using ht)

/-! ### What the compiler has looked at -/

structure SOk (P : Program) (N : Nat) (ops : Array Oper) (ds : List DI) (dis : List DInstr) : Prop where
  len : ds.length = ops.size
  len2 : dis.length = ops.size
  ins : ∀ (j : Nat) (o : Oper), ops[j]? = some o → ∃ (d : DI) (k : DInstr), ds[j]? = some d ∧ cInstr P N ops o = some d.i ∧ insClass d.i.op = some d.c ∧ dkOf ds ds.length j d = some k ∧ dis[j]? = some k
  ok : drawOk ops.toList ds = true

theorem mkDI_at : ∀ {is : List AInstr} {ms : List Nat} {ds : List DI}, mkDI is ms = some ds → ds.length = is.length ∧ ∀ (j : Nat) (i : AInstr), is[j]? = some i → ∃ d : DI, ds[j]? = some d ∧ d.i = i ∧ insClass i.op = some d.c
  | [], ms, ds, h => by simp [mkDI] at h; subst h; simp
  | i :: is, ms, ds, h => by
    simp only [mkDI, Option.bind_eq_some_iff, Option.map_eq_some_iff] at h
    obtain ⟨c, hc, ds', h', rfl⟩ := h
    obtain ⟨h1, h2⟩ := mkDI_at h'
    refine ⟨by simp [h1], fun j i' hj => ?_⟩
    cases j with
    | zero => simp at hj; subst hj; exact ⟨_, rfl, rfl, hc⟩
    | succ j => exact h2 j i' (by simpa using hj)

theorem dksOf_at {ds : List DI} {n : Nat} : ∀ {l : List DI} {k : Nat} {dis : List DInstr}, dksOf ds n l k = some dis → dis.length = l.length ∧ ∀ (j : Nat) (d : DI), l[j]? = some d → ∃ x : DInstr, dkOf ds n (k + j) d = some x ∧ dis[j]? = some x
  | [], k, dis, h => by simp [dksOf] at h; subst h; simp
  | d :: l, k, dis, h => by
    simp only [dksOf, Option.bind_eq_some_iff, Option.map_eq_some_iff] at h
    obtain ⟨x, hx, dis', h', rfl⟩ := h
    obtain ⟨h1, h2⟩ := dksOf_at h'
    refine ⟨by simp [h1], fun j d' hj => ?_⟩
    cases j with
    | zero => simp at hj; subst hj; exact ⟨x, hx, rfl⟩
    | succ j =>
      obtain ⟨y, hy1, hy2⟩ := h2 j d' (by simpa using hj)
      exact ⟨y, by rw [show k + (j + 1) = k + 1 + j by omega]; exact hy1, by simpa using hy2⟩

theorem cInstrs_len {P : Program} {N : Nat} {ops : Array Oper} : ∀ {os : List Oper} {is : List AInstr}, cInstrs P N ops os = some is → is.length = os.length
  | [], is, h => by simp [cInstrs] at h; subst h; rfl
  | o :: os, is, h => by
    simp only [cInstrs, Option.bind_eq_some_iff, Option.map_eq_some_iff] at h
    obtain ⟨i, hi, is', h', rfl⟩ := h
    simp [cInstrs_len h']

theorem sOk_of {P : Program} {N : Nat} {ops : Array Oper} {is : List AInstr} {ds : List DI} {dis : List DInstr} (h1 : cInstrs P N ops ops.toList = some is) (h2 : mkDI is (preMasks ops.toList 0 []) = some ds)
    (h3 : drawOk ops.toList ds = true) (h4 : dksOf ds ds.length ds 0 = some dis) : SOk P N ops ds dis := by
  obtain ⟨l1, a1⟩ := mkDI_at h2
  obtain ⟨l2, a2⟩ := dksOf_at h4
  have l3 := cInstrs_len h1
  refine ⟨by rw [l1, l3]; simp, by rw [l2, l1, l3]; simp, fun j o ho => ?_, h3⟩
  obtain ⟨i, hi1, hi2⟩ := cInstrs_mem h1 j o (by simpa using ho)
  obtain ⟨d, hd1, hd2, hd3⟩ := a1 j i hi1
  obtain ⟨k, hk1, hk2⟩ := a2 j d hd1
  subst hd2
  exact ⟨d, k, hd1, hi2, hd3, by simpa using hk1, hk2⟩

section
variable {P : Program} {N : Nat} {ops : Array Oper} {ds : List DI} {dis : List DInstr} (S : SOk P N ops ds dis)
 include S

theorem SOk.all {j : Nat} {o : Oper} {d : DI} (ho : ops[j]? = some o) (hd : ds[j]? = some d) :
    preOk ops.toList ds ds.length j o d = true ∧ freeOk ds ds.length d = true ∧ ∀ (i : Nat) (x : DI), i < j → ds[i]? = some x → pairOk ds i j x d = true := by
  have hok := S.ok
  simp only [drawOk, List.all_eq_true, List.mem_range] at hok
  have hj : j < ds.length := (List.getElem?_eq_some_iff.1 hd).1
  have := hok j hj
  have ho' : ops.toList[j]? = some o := by simpa using ho
  rw [ho', hd] at this
  simp only [Bool.and_eq_true, List.all_eq_true, List.mem_range] at this
  obtain ⟨⟨h1, h2⟩, h3⟩ := this
  refine ⟨h1, h2, fun i x hi hx => ?_⟩
  have := h3 i hi
  rw [hx] at this
  exact this

theorem SOk.at {j : Nat} (hj : j < ops.size) : ∃ (o : Oper) (d : DI) (k : DInstr), ops[j]? = some o ∧ ds[j]? = some d ∧ cInstr P N ops o = some d.i ∧ insClass d.i.op = some d.c ∧ dkOf ds ds.length j d = some k ∧ dis[j]? = some k := by
  obtain ⟨d, k, h⟩ := S.ins j ops[j] (Array.getElem?_eq_getElem hj)
  exact ⟨_, d, k, Array.getElem?_eq_getElem hj, h⟩

/-- Edges point back, and are in the masks. -/
theorem SOk.edge {j i : Nat} {o : Oper} {d : DI} (ho : ops[j]? = some o) (hd : ds[j]? = some d) (hi : i ∈ bindsOn o) : i < j ∧ bitOf d.pre i = true := by
  have := (S.all ho hd).1
  simp only [preOk, Bool.and_eq_true, List.all_eq_true, decide_eq_true_eq] at this
  exact this.1 i hi

theorem SOk.bit {j i : Nat} {o : Oper} {d : DI} (ho : ops[j]? = some o) (hd : ds[j]? = some d) (hin : i < ops.size) (hi : bitOf d.pre i = true) :
    i < j ∧ ∃ m ∈ bindsOn o, m = i ∨ (m < j ∧ ∃ e, ds[m]? = some e ∧ bitOf e.pre i = true) := by
  have := (S.all ho hd).1
  simp only [preOk, Bool.and_eq_true, List.all_eq_true, List.mem_range, Bool.or_eq_true, Bool.not_eq_true', decide_eq_true_eq, List.any_eq_true, beq_iff_eq, Option.any_eq_true] at this
  have h2 := this.2 i (by rw [S.len]; exact hin)
  rcases h2 with h2 | ⟨h2, m, hm, h3⟩
  · rw [hi] at h2; cases h2
  · refine ⟨h2, m, hm, ?_⟩
    rcases h3 with h3 | ⟨h3, e, he1, he2⟩
    · exact .inl h3
    · exact .inr ⟨h3, e, he1, he2⟩

end

def Li (listed : Array Bool) (i : Nat) : Prop := listed.getD i false = true

theorem Li_set {listed : Array Bool} {i : Nat} (hi : i < listed.size) (j : Nat) : Li (listed.setIfInBounds i true) j ↔ j = i ∨ Li listed j := by
  unfold Li
  simp only [Array.getD_eq_getD_getElem?, Array.getElem?_setIfInBounds]
  by_cases h : i = j
  · subst h; rw [if_pos rfl, if_pos hi]; simp
  · rw [if_neg h]; simp [Ne.symm h]

theorem ready_iff {ops : Array Oper} {listed : Array Bool} (hs : listed.size = ops.size) {i : Nat} (h : i ∈ Region.ready .any ops listed) : i < ops.size ∧ ¬ Li listed i ∧ ∀ o, ops[i]? = some o → ∀ m ∈ bindsOn o, Li listed m := by
  simp only [Region.ready, List.mem_filter, List.mem_range, Bool.and_eq_true, Bool.not_eq_true'] at h
  obtain ⟨h1, h2, h3⟩ := h
  refine ⟨h1, ?_, fun o ho m hm => ?_⟩
  · unfold Li
    simp only [Array.getD_eq_getD_getElem?] at h2 ⊢
    rw [Array.getElem?_eq_getElem (by omega)] at h2 ⊢
    simp at h2 ⊢
    exact h2
  · rw [ho] at h3
    simp only [Option.map_some, Option.getD_some, Array.all_eq_true'] at h3
    simp only [bindsOn, List.mem_map, List.mem_filter] at hm
    obtain ⟨e, ⟨he1, he2⟩, rfl⟩ := hm
    have := h3 e (by simpa using he1)
    simp only [he2, Bool.not_true, Bool.false_or] at this
    exact this

end Go.AM
