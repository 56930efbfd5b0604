/-
  AM, part 14: the machine's code stands for the model's.
-/
import Derived.Test.YtedomhceacongaaAmSim6
import Derived.OrdersIn
import Derived.LoopNIn
import Derived.CallsIn
namespace Go.AM
set_option linter.unusedVariables false
set_option linter.unusedSimpArgs false

theorem sim_op {P : Program} {h h' : AHeap} {β : Pl} {w : World} {e : Env} {a : Act} {o : Oper} {av : AVal} (G : Good P h β w e a.tmps) {ao : AOp} (hc : cOp P o.op = some ao) (he : aop e h ao = some (av, h')) :
    Did P o a.eval h β w av h' := by
  cases hop : o.op with
  | move x =>
    rw [hop] at hc; simp only [cOp, Option.map_eq_some_iff] at hc
    obtain ⟨ax, hx, rfl⟩ := hc; exact sim_mov G (.inl hop) hx he
  | assign x =>
    rw [hop] at hc; simp only [cOp, Option.map_eq_some_iff] at hc
    obtain ⟨ax, hx, rfl⟩ := hc; exact sim_mov G (.inr hop) hx he
  | pick c x y =>
    rw [hop] at hc; simp only [cOp, Option.map_eq_some_iff, Option.bind_eq_some_iff] at hc
    obtain ⟨ac, h1, ax, h2, ay, h3, rfl⟩ := hc; exact sim_pick G hop h1 h2 h3 he
  | alloc t =>
    rw [hop] at hc; simp only [cOp, Option.map_eq_some_iff] at hc
    obtain ⟨z, hz, rfl⟩ := hc; exact sim_alloc G hop hz he
  | box t x =>
    rw [hop] at hc; simp only [cOp, Option.map_eq_some_iff] at hc
    obtain ⟨ax, hx, rfl⟩ := hc; exact sim_box G hop hx he
  | build t ps => rw [hop] at hc; exact sim_build G hop hc he
  | buildSlice t n ps =>
    rw [hop] at hc; simp only [cOp, Option.bind_eq_some_iff, Prod.exists] at hc
    obtain ⟨E, hE, s, b, z, hi, hc⟩ := hc
    split at hc
    · rename_i hn
      simp only [Option.map_eq_some_iff] at hc
      obtain ⟨qs, hq, rfl⟩ := hc
      exact sim_buildSlice G hop hE hi hn hq he
    · simp at hc
  | insert t m k v =>
    rw [hop] at hc; simp only [cOp, Option.bind_eq_some_iff, Option.map_eq_some_iff] at hc
    obtain ⟨kk, hk, am, h1, ak, h2, avv, h3, rfl⟩ := hc
    exact sim_mapUpd G (.inr hop) hk h1 h2 h3 he
  | load t x =>
    rw [hop] at hc; simp only [cOp, Option.bind_eq_some_iff, Option.map_eq_some_iff] at hc
    obtain ⟨n, hn, ax, hx, rfl⟩ := hc; exact sim_load G hop hn hx he
  | store t x y =>
    rw [hop] at hc; simp only [cOp, Option.bind_eq_some_iff, Option.map_eq_some_iff] at hc
    obtain ⟨n, hn, ax, hx, ay, hy, rfl⟩ := hc; exact sim_store G hop hn hx hy he
  | ready g => rw [hop] at hc; simp [cOp] at hc
  | waits g => rw [hop] at hc; simp [cOp] at hc
  | nilCheck x =>
    rw [hop] at hc; simp only [cOp, Option.map_eq_some_iff] at hc
    obtain ⟨ax, hx, rfl⟩ := hc; exact sim_nilCheck G hop hx he
  | binOp op t x y u =>
    rw [hop] at hc; simp only [cOp] at hc
    split at hc
    · simp only [Option.bind_eq_some_iff, Option.map_eq_some_iff] at hc
      obtain ⟨ax, hx, ay, hy, rfl⟩ := hc; exact sim_bin G hop hx hy he
    · simp only [Option.bind_eq_some_iff, Option.map_eq_some_iff] at hc
      obtain ⟨ax, hx, ay, hy, rfl⟩ := hc; exact sim_bin G hop hx hy he
    · simp only [Option.bind_eq_some_iff, Option.map_eq_some_iff] at hc
      obtain ⟨ax, hx, ay, hy, rfl⟩ := hc; exact sim_bin G hop hx hy he
    · simp only [Option.bind_eq_some_iff] at hc
      obtain ⟨k, hk, hc⟩ := hc
      split at hc
      · simp only [Option.bind_eq_some_iff, Option.map_eq_some_iff] at hc
        obtain ⟨ax, hx, ay, hy, rfl⟩ := hc
        exact sim_eql G (neg := false) hop hk (fun _ => rfl) hx hy he
      · simp at hc
    · simp only [Option.bind_eq_some_iff] at hc
      obtain ⟨k, hk, hc⟩ := hc
      split at hc
      · simp only [Option.bind_eq_some_iff, Option.map_eq_some_iff] at hc
        obtain ⟨ax, hx, ay, hy, rfl⟩ := hc
        exact sim_eql G (neg := true) hop hk (fun _ => rfl) hx hy he
      · simp at hc
    · rename_i hni
      simp only [Option.bind_eq_some_iff, Option.map_eq_some_iff] at hc
      obtain ⟨k, hk, ax, hx, ay, hy, rfl⟩ := hc
      exact sim_eql G (neg := false) hop hk (fun ⟨ms, hu⟩ => by exfalso; simp_all) hx hy he
    · rename_i hni
      simp only [Option.bind_eq_some_iff, Option.map_eq_some_iff] at hc
      obtain ⟨k, hk, ax, hx, ay, hy, rfl⟩ := hc
      exact sim_eql G (neg := true) hop hk (fun ⟨ms, hu⟩ => by exfalso; simp_all) hx hy he
    · simp at hc
  | unOp op t x =>
    rw [hop] at hc; simp only [cOp, Option.map_eq_some_iff] at hc
    obtain ⟨ax, hx, rfl⟩ := hc; exact sim_un G hop hx he
  | convert s d x =>
    rw [hop] at hc; simp only [cOp] at hc
    split at hc
    · rename_i hs hd
      simp only [Option.map_eq_some_iff] at hc
      obtain ⟨ax, hx, rfl⟩ := hc; exact sim_conv G hop hs hd hx he
    · rename_i hs hd
      split at hc
      · rename_i hE
        simp only [Option.map_eq_some_iff] at hc
        obtain ⟨ax, hx, rfl⟩ := hc; exact sim_b2s G hop hs hE hd hx he
      · simp at hc
    · simp at hc
  | sliceToArrayPointer t x => rw [hop] at hc; simp [cOp] at hc
  | makeInterface t x =>
    rw [hop] at hc; simp only [cOp] at hc
    split at hc
    · simp at hc
    · rename_i d hn hd
      simp only [Option.map_eq_some_iff] at hc
      obtain ⟨ax, hx, rfl⟩ := hc; exact sim_mkIface G hop hd (fun ms e => hn ms (by rw [← e])) hx he
    · simp at hc
  | makeFunc f x y =>
    rw [hop] at hc; simp only [cOp, Option.bind_eq_some_iff, Option.map_eq_some_iff] at hc
    obtain ⟨ax, hx, ay, hy, rfl⟩ := hc; exact sim_mkFn G hop hx hy he
  | makeMap t r =>
    rw [hop] at hc
    cases r with
    | none =>
      simp only [cOp] at hc
      split at hc
      · rename_i hu; simp only [Option.some.injEq] at hc; subst hc; exact sim_mkMap G hop hu he
      · simp at hc
    | some r => simp [cOp] at hc
  | makeChan t s => rw [hop] at hc; simp [cOp] at hc
  | makeSlice t l c =>
    rw [hop] at hc; simp only [cOp] at hc
    split at hc
    · rename_i hlc
      simp only [Option.bind_eq_some_iff, Option.map_eq_some_iff, Prod.exists] at hc
      obtain ⟨E, hE, s, b, z, hi, al, hl, rfl⟩ := hc
      refine sim_mkSlice G hop ?_ hE hi hl he
      unfold sameOpd at hlc
      split at hlc
      · simp only [beq_iff_eq] at hlc; subst hlc; rfl
      · simp only [decide_eq_true_eq] at hlc; obtain ⟨rfl, rfl⟩ := hlc; rfl
      · simp at hlc
    · simp at hc
  | slice t x lo hi mx =>
    rw [hop] at hc
    cases mx with
    | none =>
      simp only [cOp, Option.bind_eq_some_iff] at hc
      obtain ⟨E, hE, s, hs, hc⟩ := hc
      split at hc
      · simp only [Option.bind_eq_some_iff, Option.map_eq_some_iff] at hc
        obtain ⟨ax, hx, al, hl, ah, hh, rfl⟩ := hc
        exact sim_slice G hop (elemT_of hE) hs hx hl hh he
      · simp at hc
    | some m => simp [cOp] at hc
  | fieldAddr t x i =>
    rw [hop] at hc; simp only [cOp, Option.bind_eq_some_iff] at hc
    obtain ⟨f, hf, hc⟩ := hc
    split at hc
    · rename_i s hs
      simp only [Option.map_eq_some_iff] at hc
      obtain ⟨ax, hx, rfl⟩ := hc; exact sim_fieldAddr G hop hf hs hx he
    · simp at hc
  | field t x i =>
    rw [hop] at hc; simp only [cOp, Option.bind_eq_some_iff, Option.map_eq_some_iff] at hc
    obtain ⟨f, hf, n, hn, ax, hx, rfl⟩ := hc; exact sim_field G hop hf hn hx he
  | indexAddr t x i =>
    rw [hop] at hc; simp only [cOp] at hc
    split at hc
    · rename_i E hu
      split at hc
      · rename_i s hs
        simp only [Option.bind_eq_some_iff, Option.map_eq_some_iff] at hc
        obtain ⟨ax, hx, ay, hy, rfl⟩ := hc; exact sim_idxS G hop hu hs hx hy he
      · simp at hc
    · rename_i n E hu
      split at hc
      · rename_i s hs
        simp only [Option.bind_eq_some_iff, Option.map_eq_some_iff] at hc
        obtain ⟨ax, hx, ay, hy, rfl⟩ := hc; exact sim_idxA G hop hu hs hx hy he
      · simp at hc
    · simp at hc
  | index t x i =>
    rw [hop] at hc; simp only [cOp] at hc
    split at hc
    · rename_i hu
      simp only [Option.bind_eq_some_iff, Option.map_eq_some_iff] at hc
      obtain ⟨ax, hx, ay, hy, rfl⟩ := hc; exact sim_indexStr G hop hu hx hy he
    · rename_i n E hu
      simp only [Option.bind_eq_some_iff, Option.map_eq_some_iff] at hc
      obtain ⟨s, hs, m, hm, ax, hx, ay, hy, rfl⟩ := hc; exact sim_index G hop hu hs hm hx hy he
    · simp at hc
  | lookup t m k ok =>
    rw [hop] at hc; simp only [cOp] at hc
    split at hc
    · rename_i kt el hu
      simp only [Option.bind_eq_some_iff, Option.map_eq_some_iff] at hc
      obtain ⟨kk, hk, z, hz, am, hm, ak, hkk, rfl⟩ := hc
      exact sim_lookup G hop hu hk hz hm hkk he
    · simp at hc
  | mapUpdate t m k v =>
    rw [hop] at hc; simp only [cOp, Option.bind_eq_some_iff, Option.map_eq_some_iff] at hc
    obtain ⟨kk, hk, am, h1, ak, h2, avv, h3, rfl⟩ := hc
    exact sim_mapUpd G (.inl hop) hk h1 h2 h3 he
  | mapEntry t m k => rw [hop] at hc; simp [cOp] at hc
  | entryStore t m s v => rw [hop] at hc; simp [cOp] at hc
  | range t x => rw [hop] at hc; simp [cOp] at hc
  | next it s => rw [hop] at hc; simp [cOp] at hc
  | entry it => rw [hop] at hc; simp [cOp] at hc
  | typeAssert x xt t ok =>
    rw [hop] at hc; simp only [cOp] at hc
    split at hc
    · simp at hc
    · rename_i d hn hd
      simp only [Option.bind_eq_some_iff, Option.map_eq_some_iff] at hc
      obtain ⟨z, hz, ax, hx, rfl⟩ := hc; exact sim_assertT G hop hd (fun ms e => hn ms (by rw [← e])) hz hx he
    · simp at hc
  | extract x i =>
    rw [hop] at hc; simp only [cOp, Option.map_eq_some_iff] at hc
    obtain ⟨ax, hx, rfl⟩ := hc; exact sim_extract G hop hx he
  | call c =>
    rw [hop] at hc; simp only [cOp] at hc
    split at hc
    · rename_i hcal
      split at hc
      · rename_i x t h1 h2
        split at hc
        · rename_i hu; simp only [Option.map_eq_some_iff] at hc; obtain ⟨ax, hx, rfl⟩ := hc; exact sim_lenS G hop hcal h1 h2 hu hx he
        · rename_i hu; simp only [Option.map_eq_some_iff] at hc; obtain ⟨ax, hx, rfl⟩ := hc; exact sim_lenT G hop hcal h1 h2 hu hx he
        · rename_i hu; simp only [Option.map_eq_some_iff] at hc; obtain ⟨ax, hx, rfl⟩ := hc; exact sim_lenM G hop hcal h1 h2 hu hx he
        · simp at hc
      · simp at hc
    · rename_i hcal
      split at hc
      · rename_i h1
        simp only [Option.bind_eq_some_iff, Option.map_eq_some_iff] at hc
        obtain ⟨ax, hx, ay, hy, rfl⟩ := hc; exact sim_min G hop hcal h1 hx hy he
      · simp at hc
    · rename_i hcal
      split at hc
      · rename_i h1
        simp only [Option.bind_eq_some_iff, Option.map_eq_some_iff] at hc
        obtain ⟨ax, hx, ay, hy, rfl⟩ := hc; exact sim_max G hop hcal h1 hx hy he
      · simp at hc
    · rename_i hcal
      split at hc
      · rename_i h1 h2
        simp only [Option.bind_eq_some_iff, Prod.exists] at hc
        obtain ⟨E, hE, sz, b, z, hi, hc⟩ := hc
        split at hc
        · rename_i d hd
          simp only [Option.bind_eq_some_iff, Option.map_eq_some_iff] at hc
          obtain ⟨ax, hx, ay, hy, rfl⟩ := hc
          exact sim_append G hop hcal h1 h2 hE hi hd (by intro k e; cases e) hx hy he
        · rename_i hd
          simp only [Option.bind_eq_some_iff, Option.map_eq_some_iff] at hc
          obtain ⟨ax, hx, ay, hy, rfl⟩ := hc
          exact sim_append G hop hcal h1 h2 hE hi hd (by intro k e; cases e) hx hy he
        · simp at hc
      · simp at hc
    · rename_i hcal
      split at hc
      · rename_i h1 h2
        simp only [Option.bind_eq_some_iff] at hc
        obtain ⟨E, hE, hc⟩ := hc
        split at hc
        · rename_i sz hs
          simp only [Option.bind_eq_some_iff, Option.map_eq_some_iff] at hc
          obtain ⟨ax, hx, ay, hy, rfl⟩ := hc
          exact sim_copy G hop hcal h1 h2 hE hs hx hy he
        · simp at hc
      · simp at hc
    · rename_i hcal
      split at hc
      · rename_i h1 h2
        simp only [Option.bind_eq_some_iff, Option.map_eq_some_iff] at hc
        obtain ⟨kk, hk, am, hm, ak, hkk, rfl⟩ := hc
        exact sim_delete G hop hcal h1 h2 hk hm hkk he
      · simp at hc
    · simp at hc
  | go c => rw [hop] at hc; simp [cOp] at hc
  | defer c => rw [hop] at hc; simp [cOp] at hc
  | panic x => rw [hop] at hc; simp [cOp] at hc
  | send c x => rw [hop] at hc; simp [cOp] at hc
  | recv t c ok => rw [hop] at hc; simp [cOp] at hc
  | select cs b => rw [hop] at hc; simp [cOp] at hc

def resRel (h : AHeap) (β : Pl) : ARes → Ending → Prop
  | .ret v, e => ∃ x, e = .returned x ∧ vrel h β v x
  | .panic v, e => ∃ x, e = .panicked [{ v := x, recovered := false }] ∧ vrel h β v x
def exitRel (h : AHeap) (β : Pl) : AExit → Exit → Prop
  | .normal, e => e = .normal
  | .exit id, e => e = .exit id
  | .ret, e => e = .ret
  | .panic v, e => ∃ x, e = .panic [{ v := x, recovered := false }] ∧ vrel h β v x

/-- What is called does as the model's calls do. -/
def SoundCall (P : Program) (r : Rec) : Prop :=
  ∀ f args h res h', r.call f args h = some (res, h') → (∃ fn, P.funcs[f]? = some fn ∧ (fn.name == "runtime.NumGoroutine") = false ∧ fn.body.isNone = false) ∧ ∀ β w (vs : Array Value), Rel h β w → h.g = P.globals.size → vrels h β args vs.toList →
    Calls P f vs w fun e w' => ∃ β', Rel h' β' w' ∧ Ext h β w h' β' w' ∧ resRel h' β' res e

/-- A run's end. -/
def Fin (P : Program) (N : Nat) (h : AHeap) (β : Pl) (w : World) (ds : List Deferred) (x : AExit) (s : St) (ex : Exit) (a : Act) (w' : World) : Prop :=
  ∃ β', Good P s.h β' w' s.e a.tmps ∧ Ext h β w s.h β' w' ∧ a.defers = ds ∧ N ≤ a.tmps.size ∧ exitRel s.h β' x ex

theorem Fin.trans {P : Program} {N : Nat} {h : AHeap} {β : Pl} {w : World} {h1 : AHeap} {β1 : Pl} {w1 : World} {ds : List Deferred} {x : AExit} {s : St} {ex : Exit} {a : Act} {w' : World}
    (X : Ext h β w h1 β1 w1) (F : Fin P N h1 β1 w1 ds x s ex a w') : Fin P N h β w ds x s ex a w' := by
  obtain ⟨β', G, X', r⟩ := F
  exact ⟨β', G, X.trans X', r⟩

theorem put_good {P : Program} {h h' : AHeap} {β β' : Pl} {w w' : World} {e : Env} {a : Act} {N : Nat} (G : Good P h β w e a.tmps) (R : Rel h' β' w') (X : Ext h β w h' β' w') (hN : N ≤ a.tmps.size) {dst : Option Nat} (hd : ∀ d, dst = some d → d < N)
    {av : AVal} {v : Value} (hv : vrel h' β' av v) : Good P h' β' w' (put e dst av) (a.put dst v).tmps ∧ N ≤ (a.put dst v).tmps.size ∧ (a.put dst v).defers = a.defers := by
  cases dst with
  | none => exact ⟨⟨R, fun t => vrel.mono X.ext (G.env t), by rw [X.gl]; exact G.g⟩, hN, rfl⟩
  | some d =>
    have hdN := hd d rfl
    refine ⟨⟨R, fun t => ?_, by rw [X.gl]; exact G.g⟩, by simpa [Act.put] using hN, rfl⟩
    simp only [put, Env.val, Tr.get_set, Act.put, Array.getD_eq_getD_getElem?, Array.getElem?_setIfInBounds]
    by_cases ht : t = d
    · subst ht
      rw [if_pos rfl, if_pos rfl, if_pos (by omega)]
      exact hv
    · rw [if_neg ht, if_neg (Ne.symm ht)]
      have := G.env t
      simp only [Env.val, Array.getD_eq_getD_getElem?] at this
      exact vrel.mono X.ext this

theorem wanted_of {P : Program} {h : AHeap} {β : Pl} {w : World} {e : Env} {a : Act} (G : Good P h β w e a.tmps) {ops : Array Oper} {g : Option (Nat × Bool)} {ag : Option (Nat × Bool)} (hg : cGuard ops g = some ag) {N : Nat} (hN : N ≤ a.tmps.size)
    (hb : ∀ t b, ag = some (t, b) → t < N) {b : Bool} (hw : wanted e ag = some b) {o : Oper} (ho : o.guard = g) : Region.wanted o (yielded ops a.tmps) = b := by
  cases g with
  | none =>
    simp only [cGuard, Option.some.injEq] at hg
    subst hg
    simp only [wanted, Option.some.injEq] at hw
    subst hw
    simp [Region.wanted, ho]
  | some jb =>
    obtain ⟨j, want⟩ := jb
    simp only [cGuard, Option.map_eq_some_iff] at hg
    obtain ⟨t, ht, rfl⟩ := hg
    have htN := hb t want rfl
    have hr := G.env t
    have hgt : a.tmps[t]? = some (a.tmps.getD t undef) := by
      rw [Array.getD_eq_getD_getElem?, Array.getElem?_eq_getElem (by omega)]; rfl
    simp only [wanted] at hw
    simp only [Region.wanted, ho, yielded, ht, Option.bind_some, hgt]
    split at hw
    · rename_i c hc
      rw [hc] at hr
      simp only [vrel] at hr
      rw [hr]
      simp only [Option.some.injEq] at hw
      rw [← hw]
      cases c <;> cases want <;> rfl
    · rename_i vs hc
      rw [hc] at hr
      simp only [vrel] at hr
      obtain ⟨x', ex, _⟩ := hr
      rw [ex]
      simp only [Option.some.injEq] at hw
      rw [← hw]
      cases want <;> rfl
    · simp at hw

/-- Is every slot that a guard asks of the frame's? -/
theorem cInstrs_mem {P : Program} {N : Nat} {ops : Array Oper} : ∀ {os : List Oper} {is : List AInstr}, cInstrs P N ops os = some is → ∀ (k : Nat) (o : Oper), os[k]? = some o → ∃ i : AInstr, is[k]? = some i ∧ cInstr P N ops o = some i
  | [], is, h, k, o, ho => by simp at ho
  | p :: os, is, h, k, o, ho => by
    simp only [cInstrs, Option.bind_eq_some_iff, Option.map_eq_some_iff] at h
    obtain ⟨i, hi, is', h', rfl⟩ := h
    cases k with
    | zero => simp at ho; subst ho; exact ⟨i, rfl, hi⟩
    | succ k => simpa using cInstrs_mem h' k o (by simpa using ho)

theorem cOp_call {P : Program} {op : Op} {f : AOpd} {as : List AOpd} (h : cIOp P op = some (.call f as)) : ∃ c ef, op = .call c ∧ c.callee = .value ef ∧ cOpd P ef = some f ∧ cOpds P c.args.toList = some as := by
  cases op
  case call c =>
    simp only [cIOp] at h
    split at h
    · rename_i ef hcal
      simp only [Option.bind_eq_some_iff, Option.map_eq_some_iff] at h
      obtain ⟨af, h1, as', h2, h3⟩ := h
      simp only [AIOp.call.injEq] at h3
      obtain ⟨rfl, rfl⟩ := h3
      exact ⟨c, ef, rfl, hcal, h1, h2⟩
    · simp [Option.map_eq_some_iff] at h
  all_goals (simp [cIOp, Option.map_eq_some_iff] at h)

theorem cOp_panic {P : Program} {op : Op} {x : AOpd} (h : cIOp P op = some (.panic x)) : ∃ ex, op = .panic ex ∧ cOpd P ex = some x := by
  cases op
  case panic e =>
    simp only [cIOp, Option.map_eq_some_iff] at h
    obtain ⟨ax, h1, h2⟩ := h
    simp only [AIOp.panic.injEq] at h2
    subst h2
    exact ⟨e, rfl, h1⟩
  case call c =>
    simp only [cIOp] at h
    split at h
    · simp [Option.bind_eq_some_iff] at h
    · simp [Option.map_eq_some_iff] at h
  all_goals (simp [cIOp, Option.map_eq_some_iff] at h)

theorem cOp_plain {P : Program} {op : Op} {o : AOp} (h : cIOp P op = some (.op o)) : cOp P op = some o := by
  cases op
  case panic e => simp [cIOp, Option.map_eq_some_iff] at h
  case call c =>
    simp only [cIOp] at h
    split at h
    · simp [Option.bind_eq_some_iff] at h
    · simpa [Option.map_eq_some_iff] using h
  all_goals (simpa [cIOp, Option.map_eq_some_iff] using h)

theorem run_callFunc_of {P : Program} {w : World} {f : FuncId} {fn : Func} {vs : Array Value} (h1 : P.funcs[f]? = some fn) (h2 : (fn.name == "runtime.NumGoroutine") = false) (h3 : fn.body.isNone = false) : (callFunc f vs).run P w = .ok (.enter f vs) w := by
  simp only [callFunc, Sem.run_bind, run_program, Result.andThen_ok, h1, h2, h3, Bool.false_eq_true, if_false, Sem.run_pure]

/-- Every function, every depth; within a round of a loop, or not. -/
abbrev fen (ρ : Option Nat) : Fence := { Fence.wide with round := ρ }

theorem wpIn_of_run {P : Program} {ρ : Option Nat} {o : Oper} {a : Act} {w : World} {K : Act → World → Prop} {Q : Exit → Act → World → Prop} {r : Result Next} (hnd : ∀ c, o.op ≠ .defer c) (hr : (execOp a.eval o).run P w = r)
    (h : o.uponIn (fen ρ) 0 P a K Q r) : o.wpIn (fen ρ) 0 P a w K Q :=
  ⟨fun _ _ => trivial, by rw [Oper.semAt_eq _ _ _ hnd, hr]; exact h⟩

theorem enterIn_of {P : Program} {ρ : Option Nat} {f : FuncId} {args : Array Value} {w : World} {R : Ending → World → Prop} (h : Calls P f args w R) :
    ((fen ρ).depth.isSome = true → 1 ≤ 0) ∧ CallsIn (fen ρ) (0 - 1) P f args w R :=
  ⟨fun h => (by cases h), callsIn_wide.2 h⟩

theorem cIOp_nd {P : Program} {op : Op} {ao : AIOp} (h : cIOp P op = some ao) : ∀ c, op ≠ .defer c := by
  intro c hc
  subst hc
  simp [cIOp, cOp] at h

theorem sim_instrs {P : Program} {r : Rec} (SC : SoundCall P r) {N : Nat} {ops : Array Oper} {ρ : Option Nat} {Q : Exit → Act → World → Prop} {tail : List Nat} : ∀ (os : List Oper) (is : List AInstr) (k : Nat), (∀ (j : Nat) (o : Oper), os[j]? = some o → ops[k + j]? = some o) → cInstrs P N ops os = some is →
    ∀ (s : St) (x : AExit) (s' : St), exIs r is s = some (x, s') → ∀ (β : Pl) (w : World) (a : Act), Good P s.h β w s.e a.tmps → N ≤ a.tmps.size →
      (x = .normal → ∀ a' w', Fin P N s.h β w a.defers x s' .normal a' w' → wpOpsIn (fen ρ) 0 P ops Q tail a' w') →
      (x ≠ .normal → ∀ ex a' w', Fin P N s.h β w a.defers x s' ex a' w' → Q ex a' w') → wpOpsIn (fen ρ) 0 P ops Q (List.range' k os.length ++ tail) a w
  | [], is, k, hd, hc, s, x, s', he, β, w, a, G, hN, hT, hQ => by
    simp only [cInstrs, Option.some.injEq] at hc
    subst hc
    simp only [exIs, Option.some.injEq, Prod.mk.injEq] at he
    obtain ⟨rfl, rfl⟩ := he
    simp only [List.length_nil, List.range'_zero, List.nil_append]
    exact hT rfl _ _ ⟨β, G, Ext.refl _ _ _, rfl, hN, rfl⟩
  | o :: os, is, k, hd, hc, s, x, s', he, β, w, a, G, hN, hT, hQ => by
    simp only [cInstrs, Option.bind_eq_some_iff, Option.map_eq_some_iff] at hc
    obtain ⟨i, hi, is', hc', rfl⟩ := hc
    have hdrop : ∀ (j : Nat) (o' : Oper), os[j]? = some o' → ops[(k + 1) + j]? = some o' := fun j o' h => by
      have := hd (j + 1) o' (by simpa using h)
      rwa [show k + (j + 1) = (k + 1) + j by omega] at this
    have hok : ops[k]? = some o := by simpa using hd 0 o rfl
    simp only [cInstr] at hi
    split at hi
    · rename_i hcond
      simp only [Option.bind_eq_some_iff, Option.map_eq_some_iff] at hi
      obtain ⟨ao, hao, ag, hag, hi⟩ := hi
      split at hi
      case isFalse => simp at hi
      rename_i hgc
      simp only [Option.some.injEq] at hi
      subst hi
      have hnd := cIOp_nd hao
      have hdN : ∀ d, o.dst = some d → d < N := by
        intro d hd'
        rw [hd'] at hcond
        simpa [dstOk] using hcond
      have hgN : ∀ t b, ag = some (t, b) → t < N := by
        intro t b hh
        rw [hh] at hgc
        simpa [dstOk] using hgc
      simp only [List.length_cons, List.range'_succ, List.cons_append, wpOpsIn, hok]
      simp only [exIs] at he
      -- on from here
      have on : ∀ (s1 : St), exIs r is' s1 = some (x, s') → ∀ (β1 : Pl) (w1 : World) (a1 : Act), Good P s1.h β1 w1 s1.e a1.tmps → N ≤ a1.tmps.size → a1.defers = a.defers → Ext s.h β w s1.h β1 w1 →
          wpOpsIn (fen ρ) 0 P ops Q (List.range' (k + 1) os.length ++ tail) a1 w1 := fun s1 he1 β1 w1 a1 G1 hN1 hd1 X1 =>
        sim_instrs SC os is' (k + 1) hdrop hc' s1 x s' he1 β1 w1 a1 G1 hN1 (fun hx a' w' F => hT hx a' w' (by rw [hd1] at F; exact F.trans X1)) (fun hx ex a' w' F => hQ hx ex a' w' (by rw [hd1] at F; exact F.trans X1))
      cases hw : wanted s.e ag with
      | none => simp only [hw] at he; simp at he
      | some wb =>
        simp only [hw] at he
        have hwd := wanted_of G hag hN hgN hw rfl
        cases wb with
        | false =>
          rw [if_neg (by rw [hwd]; simp)]
          simp only at he
          obtain ⟨G', hN', hds⟩ := put_good (dst := o.dst) (av := .tup []) (v := undef) G G.rel (Ext.refl _ _ _) hN hdN (by simp [vrel, vrels, undef])
          exact ⟨fun _ _ => trivial, on _ he β w _ G' hN' hds (Ext.refl _ _ _)⟩
        | true =>
          rw [if_pos hwd]
          simp only at he
          -- what the operation is
          have plain : ∀ (ao' : AOp) (hao' : cOp P o.op = some ao') (av : AVal) (h1 : AHeap), aop s.e s.h ao' = some (av, h1) → exIs r is' { e := put s.e o.dst av, h := h1 } = some (x, s') → o.wpIn (fen ρ) 0 P a w (wpOpsIn (fen ρ) 0 P ops Q (List.range' (k + 1) os.length ++ tail)) Q := by
            intro ao' hao' av h1 ha hrest
            obtain ⟨w1, β1, hrun, R1, X1⟩ := sim_op G hao' ha
            rcases hrun with ⟨v, hrun, hv⟩ | ⟨hrun, hav⟩
            · refine wpIn_of_run hnd hrun ?_
              rw [Oper.uponIn_value]
              obtain ⟨G', hN', hds⟩ := put_good (dst := o.dst) (av := av) (v := v) G R1 X1 hN hdN hv
              exact on _ hrest β1 w1 _ G' hN' hds X1
            · refine wpIn_of_run hnd hrun ?_
              rw [Oper.uponIn_skip]
              obtain ⟨G', hN', hds⟩ := put_good (dst := o.dst) (av := av) (v := undef) G R1 X1 hN hdN (by rw [hav]; simp [vrel])
              exact on _ hrest β1 w1 _ G' hN' hds X1
          split at he
          · -- a call
            rename_i f args
            have hcall := cOp_call hao
            obtain ⟨c, ef, hop, hcal, hef, hargs⟩ := hcall
            have rf := opd_vrel G hef
            split at he
            · rename_i g first captured hfv
              rw [hfv] at rf
              simp only [vrel] at rf
              obtain ⟨fv, cv, efv, rfirst, rcap⟩ := rf
              have rargs := opds_vrels G hargs
              have hall : vrels s.h β (first ++ args.map (opd s.e) ++ captured) (fv ++ c.args.map a.eval ++ cv).toList := by
                simp only [Array.toList_append, Array.toList_map]
                exact vrels_append (vrels_append rfirst rargs) rcap
              have hexec : ∀ fn, P.funcs[g]? = some fn → (fn.name == "runtime.NumGoroutine") = false → fn.body.isNone = false → (execOp a.eval o).run P w = .ok (.enter g (fv ++ c.args.map a.eval ++ cv)) w := by
                intro fn q1 q2 q3
                unfold execOp; rw [hop]
                simp only [resolve, hcal, efv, Deferred.ofValue, Sem.run_bind, Sem.run_pure, Result.andThen_ok, invoke, run_callFunc_of q1 q2 q3]
              split at he
              · rename_i v h1 hcl
                obtain ⟨⟨fn, q1, q2, q3⟩, hsc⟩ := SC _ _ _ _ _ hcl
                refine wpIn_of_run hnd (hexec fn q1 q2 q3) ?_
                rw [Oper.uponIn_enter]
                refine enterIn_of ((hsc β w _ G.rel G.g hall).mono ?_)
                rintro e w1 ⟨β1, R1, X1, hres⟩
                obtain ⟨v', rfl, hv⟩ := hres
                obtain ⟨G', hN', hds⟩ := put_good (dst := o.dst) (av := v) (v := v') G R1 X1 hN hdN hv
                exact on _ he β1 w1 _ G' hN' hds X1
              · rename_i v h1 hcl
                obtain ⟨⟨fn, q1, q2, q3⟩, hsc⟩ := SC _ _ _ _ _ hcl
                simp only [Option.some.injEq, Prod.mk.injEq] at he
                obtain ⟨rfl, rfl⟩ := he
                refine wpIn_of_run hnd (hexec fn q1 q2 q3) ?_
                rw [Oper.uponIn_enter]
                refine enterIn_of ((hsc β w _ G.rel G.g hall).mono ?_)
                rintro e w1 ⟨β1, R1, X1, hres⟩
                obtain ⟨v', rfl, hv⟩ := hres
                refine hQ (by intro h; cases h) _ _ _ ⟨β1, ⟨R1, fun t => vrel.mono X1.ext (G.env t), by rw [X1.gl]; exact G.g⟩, X1, rfl, hN, v', rfl, hv⟩
              · simp at he
            · simp at he
          · -- a panic
            rename_i xx
            obtain ⟨ex, hop, hex⟩ := cOp_panic hao
            have rx := opd_vrel G hex
            split at he
            · rename_i t v hvv
              rw [hvv] at rx
              have rx' := rx
              simp only [vrel] at rx
              obtain ⟨v', ev, hv⟩ := rx
              simp only [Option.some.injEq, Prod.mk.injEq] at he
              obtain ⟨rfl, rfl⟩ := he
              have hrun : (execOp a.eval o).run P w = .halt (.panic (a.eval ex)) w := by
                unfold execOp; rw [hop]
                simp only [Sem.run_bind, ev, Instr.panic, run_goPanic, Result.andThen_halt]
              refine wpIn_of_run hnd hrun ?_
              rw [Oper.uponIn_panic]
              exact hQ (by intro h; cases h) _ _ _ ⟨β, G, Ext.refl _ _ _, rfl, hN, _, rfl, rx'⟩
            · simp at he
          · rename_i op
            split at he
            · rename_i av h1' ha
              exact plain op (cOp_plain hao) av h1' ha he
            · simp at he
    · simp at hi

/-- A region, whole. -/
theorem sim_region {P : Program} {r : Rec} (SC : SoundCall P r) {N : Nat} {id : Nat} {ops : Array Oper} {ρ : Option Nat} {Q : Exit → Act → World → Prop} {is : List AInstr} (hc : cInstrs P N ops ops.toList = some is)
    {s s' : St} {x : AExit} (he : exIs r is s = some (x, s')) {β : Pl} {w : World} {a : Act} (G : Good P s.h β w s.e a.tmps) (hN : N ≤ a.tmps.size)
    (hQ : ∀ ex a' w', Fin P N s.h β w a.defers x s' ex a' w' → Q ex a' w') : (Code.region id ops false).wpIn (fen ρ) 0 P Q a w := by
  refine wpIn_region ?_
  have := sim_instrs (ρ := ρ) (Q := Q) (tail := []) SC ops.toList is 0 (fun j o h => by simpa using h) hc s x s' he β w a G hN (fun _ a' w' F => hQ _ a' w' F) (fun _ ex a' w' F => hQ ex a' w' F)
  rw [List.range_eq_range']
  simpa using this

end Go.AM
