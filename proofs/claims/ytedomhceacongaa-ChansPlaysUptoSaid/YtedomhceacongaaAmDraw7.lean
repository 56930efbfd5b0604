/-
  AM, part 23: regions whose order is open, whole.
-/
import Derived.Test.YtedomhceacongaaAmPerm
namespace Go.AM
set_option linter.unusedVariables false
set_option linter.unusedSimpArgs false

def left (n : Nat) (listed : Array Bool) : Nat := ((List.range n).filter fun i => !listed.getD i false).length

theorem left_set {n : Nat} {listed : Array Bool} (hs : listed.size = n) {i : Nat} (hi : i < n) (hl : ¬ Li listed i) : left n (listed.setIfInBounds i true) < left n listed := by
  unfold left
  have hsub : (List.range n).filter (fun k => !(listed.setIfInBounds i true).getD k false) = ((List.range n).filter (fun k => !listed.getD k false)).filter (fun k => !(listed.setIfInBounds i true).getD k false) := by
    rw [List.filter_filter]
    apply List.filter_congr
    intro k hk
    cases h : listed.getD k false with
    | false => simp
    | true =>
      have := (Li_set (listed := listed) (i := i) (by omega) k).2 (.inr h)
      unfold Li at this
      rw [this]; rfl
  rw [hsub]
  apply List.length_filter_lt_length_iff_exists.2
  refine ⟨i, ?_, ?_⟩
  · simp only [List.mem_filter, List.mem_range]
    refine ⟨hi, ?_⟩
    unfold Li at hl
    simpa using hl
  · have := (Li_set (listed := listed) (i := i) (by omega) i).2 (.inl rfl)
    unfold Li at this
    rw [this]; simp

section
variable {P : Program} {N : Nat} {ops : Array Oper} {ds : List DI} {dis : List DInstr} {r : Rec} {e0 : Env} {h0 : AHeap} {ts : List TS} {o : TE} {e1 : Env} {h1 : AHeap} {β0 : Pl} {w0 : World} {dfs : List Deferred}
  (S : SOk P N ops ds dis) (T : TrOk r dis e0 h0 ts o e1 h1)
variable {bl : Nat → Nat} {listed : Array Bool} {a : Act} {w : World} {p : Nat} {β : Pl}

 include S in
theorem ready_nil (hs : listed.size = ops.size) (hr : Region.ready .any ops listed = []) : ∀ i, i < ops.size → Li listed i := by
  intro i
  induction i using Nat.strongRecOn with
  | _ i ih =>
    intro hi
    by_cases hl : Li listed i
    · exact hl
    · exfalso
      have hmem : i ∈ Region.ready .any ops listed := by
        simp only [Region.ready, List.mem_filter, List.mem_range, Bool.and_eq_true, Bool.not_eq_true']
        refine ⟨hi, ?_, ?_⟩
        · unfold Li at hl
          simp only [Array.getD_eq_getD_getElem?, Array.getElem?_eq_getElem (show i < listed.size by omega), Option.getD_some] at hl ⊢
          simpa using hl
        · obtain ⟨oj, d, k, h1, h2, h3, _⟩ := S.at hi
          rw [h1]
          simp only [Option.map_some, Option.getD_some, Array.all_eq_true']
          intro e he
          cases hb : Region.binds .any e with
          | false => rfl
          | true =>
            simp only [Bool.not_true, Bool.false_or]
            have hm : e.on ∈ bindsOn oj := by
              simp only [bindsOn, List.mem_map, List.mem_filter]
              exact ⟨e, ⟨by simpa using he, hb⟩, rfl⟩
            have := (S.edge h1 h2 hm).1
            exact ih e.on this (by omega)
      rw [hr] at hmem
      cases hmem

 include S T in
theorem Inv.all (SC : SoundCall P r) (RO : readsOk ts h1 dis ts = true) {ρ : Option Nat} {Q : Exit → Act → World → Prop}
    (hQ : ∀ v, o = .pan v → ∀ ex a' w', Fin P N h0 β0 w0 dfs (.panic v) ⟨wiped e0 dis, h1⟩ ex a' w' → Q ex a' w')
    (hQn : o = .fin → ∀ ex a' w', Fin P N h0 β0 w0 dfs .normal ⟨e1, h1⟩ ex a' w' → Q ex a' w') :
    ∀ (fuel : Nat) (bl : Nat → Nat) (listed : Array Bool) (a : Act) (w : World) (p : Nat) (β : Pl), left ops.size listed ≤ fuel → Inv P N ops ds ts o e1 h1 h0 β0 w0 dfs bl listed a w p β → wpAnyIn (fen ρ) 0 P .any ops Q fuel listed a w := by
  have fin : ∀ (bl : Nat → Nat) (listed : Array Bool) (a : Act) (w : World) (p : Nat) (β : Pl), Inv P N ops ds ts o e1 h1 h0 β0 w0 dfs bl listed a w p β → Region.ready .any ops listed = [] → Q .normal a w := by
    intro bl listed a w p β I hr
    have hall := ready_nil S I.sz hr
    obtain ⟨q, β', I', hq⟩ := I.absorb S T _ _ _ rfl
    have hqr : q = reach ops ts o := by
      rcases hq with h | ⟨h1, h2⟩
      · exact h
      · exact absurd (hall q (isA_lt S h1)) h2
    cases ho : o with
    | pan v =>
      obtain ⟨pa, _⟩ := pan_act S T ho
      exact absurd (hall _ (isA_lt S pa)) (I'.nolast v ho)
    | fin =>
      have hqs : q = ops.size := by rw [hqr, ho]; rfl
      subst hqs
      have hts : ts.length = ops.size := by rw [T.fin ho, S.len2]
      have hh : heapAt ts h1 ops.size = h1 := by
        unfold heapAt; rw [List.getElem?_eq_none (by omega)]
      have he : envAt ts e1 ops.size = e1 := by
        unfold envAt; rw [List.getElem?_eq_none (by omega)]
      have R := I'.rel
      have X := I'.ext
      have g := I'.gg
      rw [hh] at R X g
      refine hQn ho _ _ _ ⟨β', ⟨R, fun t => ?_, g⟩, X, I'.dfr, I'.tmps, rfl⟩
      rcases I'.env t with ⟨i, i1, i2, i3, i4⟩ | ⟨f, f1, f2, f3, f4, f5⟩
      · have hi : i ≤ ops.size := by rw [ho] at i1; exact i1
        have := env_same S T (t := t) ops.size i hi (by rw [ho]; exact Nat.le_refl _) (fun x hx1 hx2 hw => i3 x hx1 hx2 hw (hall x hx2))
        rw [he] at this
        rw [hh] at i4
        simp only
        rw [this]; exact i4
      · omega
  intro fuel
  induction fuel with
  | zero =>
    intro bl listed a w p β hl I
    have hr : Region.ready .any ops listed = [] := by
      cases h : Region.ready .any ops listed with
      | nil => rfl
      | cons x xs =>
        have hx : x ∈ Region.ready .any ops listed := by rw [h]; exact List.mem_cons_self
        obtain ⟨h1, h2, _⟩ := ready_iff I.sz hx
        have := left_set I.sz h1 h2
        omega
    exact ⟨hr, fin bl listed a w p β I hr⟩
  | succ fuel ih =>
    intro bl listed a w p β hl I
    refine ⟨fun hr => fin bl listed a w p β I hr, fun i hi => ?_⟩
    obtain ⟨q, β', I', hq⟩ := I.absorb S T _ _ _ rfl
    obtain ⟨h1, h2, _⟩ := ready_iff I.sz hi
    refine I'.step S T SC RO hq hi (fun bl' a' w' p' β'' I'' => ih bl' _ a' w' p' β'' ?_ I'') hQ
    have := left_set I.sz h1 h2
    omega

end

/-- What hangs on its operands, or on the heap, and does nothing. -/
def Still (i : AInstr) (d : DInstr) : Prop := d.i = i ∧ ∃ op, i.op = .op op ∧ ((opClass op = .pure ∧ d.k = .pure) ∨ (opClass op = .read ∧ d.k = .read []))

theorem still_tr {r : Rec} : ∀ {is : List AInstr} {dis : List DInstr}, is.length = dis.length → (∀ (j : Nat) (i : AInstr) (d : DInstr), is[j]? = some i → dis[j]? = some d → Still i d) →
    ∀ (s : St) (x : AExit) (s' : St), exIs r is s = some (x, s') → x = .normal ∧ s'.h = s.h ∧ ∃ ts, trD r dis s.e s.h = some (ts, .fin, s'.e, s.h)
  | [], [], _, hst, s, x, s', he => by
    simp only [exIs, Option.some.injEq, Prod.mk.injEq] at he
    obtain ⟨rfl, rfl⟩ := he
    exact ⟨rfl, rfl, [], rfl⟩
  | i :: is, d :: dis, hl, hst, s, x, s', he => by
    have hrest : ∀ (j : Nat) (i' : AInstr) (d' : DInstr), is[j]? = some i' → dis[j]? = some d' → Still i' d' := fun j i' d' h1 h2 => hst (j + 1) i' d' (by simpa using h1) (by simpa using h2)
    obtain ⟨hdi, op, hop, hk⟩ := hst 0 i d rfl rfl
    unfold exIs at he
    unfold trD
    rw [hdi]
    cases hw : wanted s.e i.guard with
    | none => rw [hw] at he; simp at he
    | some b =>
      rw [hw] at he
      cases b with
      | false =>
        simp only at he ⊢
        obtain ⟨a1, a2, ts, a3⟩ := still_tr (by simpa using hl) hrest _ x s' he
        simp only at a2 a3
        exact ⟨a1, a2, _, by rw [a3]; rfl⟩
      | true =>
        simp only [hop] at he ⊢
        split at he
        · rename_i v h' ha
          obtain ⟨a1, a2, ts, a3⟩ := still_tr (by simpa using hl) hrest _ x s' he
          simp only at a2 a3
          have hh : h' = s.h := by
            rcases hk with ⟨hc, _⟩ | ⟨hc, _⟩
            · exact (aop_pure hc ha s.h).1
            · exact aop_read hc ha
          subst hh
          refine ⟨a1, a2, ⟨s.e, s.h, true, v⟩ :: ts, ?_⟩
          rcases hk with ⟨_, hk⟩ | ⟨_, hk⟩ <;> (rw [hk]; simp only [ha, a3]; rfl)
        · simp at he
  | [], d :: dis, hl, _, _, _, _, _ => by simp at hl
  | i :: is, [], hl, _, _, _, _, _ => by simp at hl

theorem sim_draw1 {P : Program} {r : Rec} (SC : SoundCall P r) {N : Nat} {ops : Array Oper} {c : ACode} (hc : cDraw1 P N ops = some c)
    {s s' : St} {x : AExit} (he : ex r c s = some (x, s')) {β : Pl} {w : World} {a : Act} (G : Good P s.h β w s.e a.tmps) (hN : N ≤ a.tmps.size) {ρ : Option Nat} {Q : Exit → Act → World → Prop}
    (hQ : ∀ e a' w', Fin P N s.h β w a.defers x s' e a' w' → Q e a' w') : wpAnyIn (fen ρ) 0 P .any ops Q ops.size (Array.replicate ops.size false) a { w with drawn := w.drawn + 1 } := by
  simp only [cDraw1, Option.bind_eq_some_iff] at hc
  obtain ⟨is, his, ds, hds, hc⟩ := hc
  split at hc
  case isFalse => simp at hc
  rename_i hok
  have hdk : ∃ dis, dksOf ds ds.length ds 0 = some dis := by
    have : ∀ (l : List DI) (k : Nat), ∃ dis, dksOf ds ds.length l k = some dis := by
      intro l
      induction l with
      | nil => intro k; exact ⟨[], rfl⟩
      | cons d l ih =>
        intro k
        obtain ⟨dis, h⟩ := ih (k + 1)
        have : ∃ x, dkOf ds ds.length k d = some x := by
          unfold dkOf; split <;> exact ⟨_, rfl⟩
        obtain ⟨x, hx⟩ := this
        exact ⟨x :: dis, by simp only [dksOf, hx, h]; rfl⟩
    exact this ds 0
  obtain ⟨dis, hdis⟩ := hdk
  have S := sOk_of his hds hok hdis
  have main : ∀ (ts : List TS) (o : TE) (e1 : Env) (h1 : AHeap), trD r dis s.e s.h = some (ts, o, e1, h1) → readsOk ts h1 dis ts = true →
      (∀ v, o = .pan v → x = .panic v ∧ s' = ⟨wiped s.e dis, h1⟩) → (o = .fin → x = .normal ∧ s' = ⟨e1, h1⟩) → wpAnyIn (fen ρ) 0 P .any ops Q ops.size (Array.replicate ops.size false) a { w with drawn := w.drawn + 1 } := by
    intro ts o e1 h1 htr hro hp hf
    have T := tr_ok htr
    obtain ⟨R, X⟩ := G.rel.same (w' := { w with drawn := w.drawn + 1 }) rfl rfl rfl
    have hno : ∀ i, ¬ Li (Array.replicate ops.size false) i := by
      intro i h
      unfold Li at h
      simp only [Array.getD_eq_getD_getElem?, Array.getElem?_replicate] at h
      split at h <;> simp at h
    refine Inv.all (h0 := s.h) (β0 := β) (w0 := w) (dfs := a.defers) S T SC hro (fun v ho ex' a' w' F => ?_) (fun ho ex' a' w' F => ?_) ops.size (fun _ => 0) _ a _ 0 β ?_ ?_
    · obtain ⟨rfl, rfl⟩ := hp v ho
      exact hQ _ _ _ F
    · obtain ⟨rfl, rfl⟩ := hf ho
      exact hQ _ _ _ F
    · unfold left
      exact Nat.le_trans (List.length_filter_le _ _) (by simp)
    · exact { sz := by simp, pL := Nat.zero_le _, acts := fun i hi => by omega, nolast := fun v ho => hno _, rel := by rw [T.h0]; exact R, gg := by rw [T.h0]; exact G.g, ext := by rw [T.h0]; exact X, closed := fun j oj _ hl => absurd hl (hno j),
              env := fun t => .inl ⟨0, Nat.zero_le _, fun x hx => by omega, fun x _ _ _ => hno x, by rw [T.h0, T.e0]; exact G.env t⟩, pend := fun f _ _ _ hl => absurd hl (hno f), dist := fun f g _ _ _ _ hl => absurd hl (hno f), dfr := rfl, tmps := hN }
  split at hc
  · rw [hdis] at hc
    simp only [Option.map_some, Option.some.injEq] at hc
    subst hc
    simp only [ex, exD] at he
    split at he
    · simp at he
    · rename_i ts o e1 h1 htr
      split at he
      · rename_i hro
        cases o with
        | fin =>
          simp only [Option.some.injEq, Prod.mk.injEq] at he
          obtain ⟨rfl, rfl⟩ := he
          exact main ts .fin e1 h1 htr hro (fun v h => by cases h) (fun _ => ⟨rfl, rfl⟩)
        | pan v =>
          simp only [Option.some.injEq, Prod.mk.injEq] at he
          obtain ⟨rfl, rfl⟩ := he
          exact main ts (.pan v) e1 h1 htr hro (fun v' h => by cases h; exact ⟨rfl, rfl⟩) (fun h => by cases h)
      · simp at he
  · rename_i hna
    simp only [Option.some.injEq] at hc
    subst hc
    simp only [ex] at he
    have hnact : ∀ (j : Nat) (d : DI), ds[j]? = some d → d.c.isAct = false := by
      intro j d hd
      cases h : d.c.isAct with
      | false => rfl
      | true => exact absurd (List.any_eq_true.2 ⟨d, List.mem_of_getElem? hd, h⟩) hna
    have hst : ∀ (j : Nat) (i : AInstr) (d : DInstr), is[j]? = some i → dis[j]? = some d → Still i d := by
      intro j i d hi hd
      obtain ⟨l1, a1⟩ := mkDI_at hds
      obtain ⟨l2, a2⟩ := dksOf_at hdis
      obtain ⟨di, b1, b2, b3⟩ := a1 j i hi
      obtain ⟨k, b4, b5⟩ := a2 j di b1
      rw [hd] at b5; cases b5
      have hn := hnact j di b1
      have hac : ∀ q, actsAhead ds q = 0 := by
        intro q
        unfold actsAhead
        rw [List.length_eq_zero_iff, List.filter_eq_nil_iff]
        intro y hy
        obtain ⟨m, hm⟩ := List.mem_iff_getElem?.1 (List.mem_of_mem_take hy)
        rw [hnact m y hm]; simp
      unfold dkOf at b4
      subst b2
      cases hop : di.i.op with
      | op op =>
        rw [hop] at b3
        simp only [insClass, Option.some.injEq] at b3
        cases hcl : di.c with
        | pure =>
          rw [hcl] at b4 b3; simp only [Option.some.injEq] at b4; subst b4
          exact ⟨rfl, op, hop, .inl ⟨b3, rfl⟩⟩
        | read =>
          rw [hcl] at b4 b3; simp only [Option.some.injEq] at b4; subst b4
          refine ⟨rfl, op, hop, .inr ⟨b3, ?_⟩⟩
          have : placesQ ds ds.length (0 + j) di.pre = [] := by
            unfold placesQ
            rw [List.filter_eq_nil_iff]
            intro q _
            rw [hac, hac]; simp
          simp only [this]
        | act => rw [hcl] at hn; cases hn
        | free => rw [hcl] at hn; cases hn
      | call f as =>
        rw [hop] at b3
        simp only [insClass, Option.some.injEq] at b3
        rw [← b3] at hn; cases hn
      | panic y => rw [hop] at b3; simp [insClass] at b3
    have hlen : is.length = dis.length := by
      rw [cInstrs_len his, S.len2]; simp
    obtain ⟨rfl, hh, ts, htr⟩ := still_tr hlen hst s x s' he
    refine main ts .fin s'.e s.h htr ?_ (fun v h => by cases h) (fun _ => ⟨rfl, ?_⟩)
    · have : ∀ (all : List TS) (h : AHeap) (dis : List DInstr) (ts : List TS), (∀ (d : DInstr), d ∈ dis → d.k = .pure ∨ d.k = .read []) → readsOk all h dis ts = true := by
        intro all h dis
        induction dis with
        | nil => intro ts _; cases ts <;> rfl
        | cons d dis ih =>
          intro ts hd
          cases ts with
          | nil => rfl
          | cons t ts =>
            simp only [readsOk, Bool.and_eq_true]
            refine ⟨?_, ih ts fun d hd' => hd d (List.mem_cons_of_mem _ hd')⟩
            unfold readOk
            rcases hd d List.mem_cons_self with h | h <;> rw [h]
            split
            · rename_i qs op h1 h2
              cases h1
              simp
            · rfl
      refine this _ _ _ _ fun d hd => ?_
      obtain ⟨j, hj⟩ := List.mem_iff_getElem?.1 hd
      have hjl : j < is.length := by rw [hlen]; exact (List.getElem?_eq_some_iff.1 hj).1
      obtain ⟨_, op, _, hk | hk⟩ := hst j _ d (List.getElem?_eq_getElem hjl) hj
      · exact .inl hk.2
      · exact .inr hk.2
    · cases s'; simp only at hh; subst hh; rfl

theorem sim_draw {P : Program} {r : Rec} (SC : SoundCall P r) (hfol : P.follows .mixedOrders = true) {N : Nat} {id : Nat} {ops : Array Oper} {c : ACode} (hc : cDraw P N ops = some c)
    {s s' : St} {x : AExit} (he : ex r c s = some (x, s')) {β : Pl} {w : World} {a : Act} (G : Good P s.h β w s.e a.tmps) (hN : N ≤ a.tmps.size) {ρ : Option Nat} {Q : Exit → Act → World → Prop}
    (hQ : ∀ e a' w', Fin P N s.h β w a.defers x s' e a' w' → Q e a' w') : (Code.region id ops true).wpIn (fen ρ) 0 P Q a w := by
  refine wpIn_region_any hfol ?_
  unfold cDraw at hc
  split at hc
  · rename_i c' hc'
    simp only [Option.some.injEq] at hc
    subst hc
    exact sim_draw1 SC hc' he G hN hQ
  · simp only at hc
    split at hc
    · rename_i hσ
      have h := sim_draw1 (ρ := ρ) SC hc he G hN hQ
      rw [perm_size hσ] at h
      refine perm_any hσ ops.size _ _ a _ ⟨by simp, by simp, fun k i hk => ?_⟩ h
      simp only [Array.getD_eq_getD_getElem?, Array.getElem?_replicate]
      split <;> split <;> rfl
    · simp at hc

end Go.AM
