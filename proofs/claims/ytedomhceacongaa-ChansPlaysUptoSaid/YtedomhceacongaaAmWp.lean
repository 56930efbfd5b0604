/-
  AM, part 26: reasoning on the machine's code: what must hold ahead of a code, so that it ends and what is asked holds behind it.
-/
import Derived.Test.YtedomhceacongaaAmLift
namespace Go.AM
set_option linter.unusedSimpArgs false
set_option linter.unusedVariables false

/-- A call ends with a value. -/
def CallP (P : AProg) (f : FuncId) (args : List AVal) (h : AHeap) (Q : AVal → AHeap → Prop) : Prop :=
  ∃ N v h', (∀ n, N ≤ n → (run P n).call f args h = some (.ret v, h')) ∧ Q v h'
theorem CallP.mono {P : AProg} {f : FuncId} {args : List AVal} {h : AHeap} {Q Q' : AVal → AHeap → Prop} (c : CallP P f args h Q) (i : ∀ v h', Q v h' → Q' v h') : CallP P f args h Q' := by
  obtain ⟨N, v, h', e, q⟩ := c; exact ⟨N, v, h', e, i _ _ q⟩

abbrev Post := AExit → Env → AHeap → Prop

def CodeP (P : AProg) (c : ACode) (Q : Post) (e : Env) (h : AHeap) : Prop :=
  ∃ N x s, (∀ n, N ≤ n → ex (run P n) c ⟨e, h⟩ = some (x, s)) ∧ Q x s.e s.h

def wpOp (o : Option (AVal × AHeap)) (k : AVal → AHeap → Prop) : Prop := match o with
  | some (v, h) => k v h
  | none => False
def wpFn (P : AProg) (f : AVal) (args : List AVal) (h : AHeap) (k : AVal → AHeap → Prop) : Prop := match f with
  | .fn (.func f) first captured => CallP P f (first ++ args ++ captured) h k
  | _ => False
def wpG (o : Option Bool) (A B : Prop) : Prop := match o with
  | some true => A
  | some false => B
  | none => False
def wpC (v : AVal) (A B : Prop) : Prop := match v with
  | .bool true => A
  | .bool false => B
  | _ => False

def wpIs (P : AProg) : List AInstr → (Env → AHeap → Prop) → Env → AHeap → Prop
  | [], Q, e, h => Q e h
  | i :: is, Q, e, h => wpG (wanted e i.guard)
      (match i.op with
        | .op o => wpOp (aop e h o) fun v h' => wpIs P is Q (put e i.dst v) h'
        | .call f args => wpFn P (opd e f) (args.map (opd e)) h fun v h' => wpIs P is Q (put e i.dst v) h'
        | .panic _ => False)
      (wpIs P is Q (put e i.dst (.tup [])) h)

def wpTr (P : AProg) : List DInstr → (List TS → Env → AHeap → Prop) → Env → AHeap → Prop
  | [], Q, e, h => Q [] e h
  | d :: ds, Q, e, h => wpG (wanted e d.i.guard)
      (match d.i.op with
        | .op o => wpOp (aop e h o) fun v h' => wpTr P ds (fun ts => Q (⟨e, h, true, v⟩ :: ts)) (put e d.i.dst v) (match d.k with | .act _ => h' | _ => h)
        | .call f args => match d.k with
          | .act _ => wpFn P (opd e f) (args.map (opd e)) h fun v h' => wpTr P ds (fun ts => Q (⟨e, h, true, v⟩ :: ts)) (put e d.i.dst v) h'
          | _ => False
        | .panic _ => False)
      (wpTr P ds (fun ts => Q (⟨e, h, false, .tup []⟩ :: ts)) (put e d.i.dst (.tup [])) h)

def seqQ (k : Env → AHeap → Prop) (Q : Post) : Post
  | .normal, e, h => k e h
  | x, e, h => Q x e h
def blkQ (id : Nat) (Q : Post) : Post
  | .exit id', e, h => if id' = id then Q .normal e h else Q (.exit id') e h
  | x, e, h => Q x e h
def loopQ (I : Nat → Env → AHeap → Prop) (k : Nat) (Q : Post) : Post
  | .normal, e, h => ∃ k', k' < k ∧ I k' e h
  | x, e, h => Q x e h

def wp (P : AProg) : ACode → Post → Env → AHeap → Prop
  | .skip, Q, e, h => Q .normal e h
  | .region is, Q, e, h => wpIs P is (Q .normal) e h
  | .draw is, Q, e, h => wpTr P is (fun ts e' h' => readsOk ts h' is ts = true ∧ Q .normal e' h') e h
  | .seq a b, Q, e, h => wp P a (seqQ (wp P b Q) Q) e h
  | .cond c a b, Q, e, h => wpC (opd e c) (wp P a Q e h) (wp P b Q e h)
  | .block id b, Q, e, h => wp P b (blkQ id Q) e h
  | .loop b, Q, e, h => ∃ (I : Nat → Env → AHeap → Prop) (k : Nat), I k e h ∧ ∀ k e h, I k e h → wp P b (loopQ I k Q) e h
  | .exit id, Q, e, h => Q (.exit id) e h
  | .ret, Q, e, h => Q .ret e h

theorem wpIs_sound {P : AProg} : ∀ (is : List AInstr) (Q : Env → AHeap → Prop) (e : Env) (h : AHeap), wpIs P is Q e h →
    ∃ N s, (∀ n, N ≤ n → exIs (run P n) is ⟨e, h⟩ = some (.normal, s)) ∧ Q s.e s.h
  | [], Q, e, h, w => ⟨0, ⟨e, h⟩, fun _ _ => rfl, w⟩
  | i :: is, Q, e, h, w => by
    simp only [wpIs] at w
    cases hg : wanted e i.guard with
    | none => rw [hg] at w; exact w.elim
    | some b =>
      rw [hg] at w
      cases b with
      | false =>
        obtain ⟨N, s, h1, h2⟩ := wpIs_sound is Q _ _ w
        exact ⟨N, s, fun n hn => by simp only [exIs, hg]; exact h1 n hn, h2⟩
      | true =>
        simp only [wpG] at w
        cases ho : i.op with
        | op o =>
          rw [ho] at w
          simp only at w
          cases ha : aop e h o with
          | none => rw [ha] at w; exact w.elim
          | some p =>
            obtain ⟨v, h'⟩ := p
            rw [ha] at w
            obtain ⟨N, s, h1, h2⟩ := wpIs_sound is Q _ _ w
            exact ⟨N, s, fun n hn => by simp only [exIs, hg, ho, ha]; exact h1 n hn, h2⟩
        | call f args =>
          rw [ho] at w
          simp only at w
          unfold wpFn at w
          split at w
          · rename_i f' first captured hf
            obtain ⟨N1, v, h', hc, w⟩ := w
            obtain ⟨N, s, h1, h2⟩ := wpIs_sound is Q _ _ w
            refine ⟨max N N1, s, fun n hn => ?_, h2⟩
            simp only [exIs, hg, ho, hf]
            rw [hc n (by omega)]
            exact h1 n (by omega)
          · exact w.elim
        | panic x => rw [ho] at w; exact w.elim

theorem wpTr_sound {P : AProg} : ∀ (is : List DInstr) (Q : List TS → Env → AHeap → Prop) (e : Env) (h : AHeap), wpTr P is Q e h →
    ∃ N ts e' h', (∀ n, N ≤ n → trD (run P n) is e h = some (ts, .fin, e', h')) ∧ Q ts e' h'
  | [], Q, e, h, w => ⟨0, [], e, h, fun _ _ => rfl, w⟩
  | d :: ds, Q, e, h, w => by
    simp only [wpTr] at w
    cases hg : wanted e d.i.guard with
    | none => rw [hg] at w; exact w.elim
    | some b =>
      rw [hg] at w
      cases b with
      | false =>
        obtain ⟨N, ts, e', h', h1, h2⟩ := wpTr_sound ds _ _ _ w
        exact ⟨N, _, e', h', fun n hn => by simp only [trD, hg]; rw [h1 n hn]; rfl, h2⟩
      | true =>
        simp only [wpG] at w
        cases ho : d.i.op with
        | op o =>
          rw [ho] at w
          simp only at w
          cases ha : aop e h o with
          | none => rw [ha] at w; exact w.elim
          | some p =>
            obtain ⟨v, h'⟩ := p
            rw [ha] at w
            obtain ⟨N, ts, e', h2', h1, h2⟩ := wpTr_sound ds _ _ _ w
            refine ⟨N, _, e', h2', fun n hn => ?_, h2⟩
            have h1n := h1 n hn
            cases hk : d.k <;> simp only [hk] at h1n <;> simp only [trD, hg, ho, ha, hk, h1n] <;> rfl
        | call f args =>
          rw [ho] at w
          simp only at w
          cases hk : d.k with
          | act last =>
            rw [hk] at w
            simp only at w
            unfold wpFn at w
            split at w
            · rename_i f' first captured hf
              obtain ⟨N1, v, h', hc, w⟩ := w
              obtain ⟨N, ts, e', h2', h1, h2⟩ := wpTr_sound ds _ _ _ w
              refine ⟨max N N1, _, e', h2', fun n hn => ?_, h2⟩
              simp only [trD, hg, ho, hf, hk]
              rw [hc n (by omega)]
              simp only [h1 n (by omega)]
              rfl
            · exact w.elim
          | pure => rw [hk] at w; exact w.elim
          | read qs => rw [hk] at w; exact w.elim
        | panic x => rw [ho] at w; exact w.elim

theorem wp_sound {P : AProg} : ∀ (c : ACode) (Q : Post) (e : Env) (h : AHeap), wp P c Q e h → CodeP P c Q e h
  | .skip, Q, e, h, w => ⟨0, .normal, ⟨e, h⟩, fun _ _ => rfl, w⟩
  | .exit id, Q, e, h, w => ⟨0, .exit id, ⟨e, h⟩, fun _ _ => rfl, w⟩
  | .ret, Q, e, h, w => ⟨0, .ret, ⟨e, h⟩, fun _ _ => rfl, w⟩
  | .region is, Q, e, h, w => by
    obtain ⟨N, s, h1, h2⟩ := wpIs_sound is _ e h w
    exact ⟨N, .normal, s, fun n hn => by simp only [ex]; exact h1 n hn, h2⟩
  | .draw is, Q, e, h, w => by
    obtain ⟨N, ts, e', h', h1, hr, h2⟩ := wpTr_sound is _ e h w
    exact ⟨N, .normal, ⟨e', h'⟩, fun n hn => by simp only [ex, exD, h1 n hn, hr]; rfl, h2⟩
  | .seq a b, Q, e, h, w => by
    obtain ⟨N, x, s, h1, h2⟩ := wp_sound a _ e h w
    cases x with
    | normal =>
      obtain ⟨N2, x, s2, h3, h4⟩ := wp_sound b _ _ _ h2
      exact ⟨max N N2, x, s2, fun n hn => by simp only [ex, h1 n (by omega)]; exact h3 n (by omega), h4⟩
    | exit id => exact ⟨N, _, s, fun n hn => by simp only [ex, h1 n hn], h2⟩
    | ret => exact ⟨N, _, s, fun n hn => by simp only [ex, h1 n hn], h2⟩
    | panic v => exact ⟨N, _, s, fun n hn => by simp only [ex, h1 n hn], h2⟩
  | .cond c a b, Q, e, h, w => by
    simp only [wp] at w
    unfold wpC at w
    split at w
    · rename_i hc
      obtain ⟨N, x, s, h1, h2⟩ := wp_sound a _ e h w
      exact ⟨N, x, s, fun n hn => by simp only [ex, hc]; exact h1 n hn, h2⟩
    · rename_i hc
      obtain ⟨N, x, s, h1, h2⟩ := wp_sound b _ e h w
      exact ⟨N, x, s, fun n hn => by simp only [ex, hc]; exact h1 n hn, h2⟩
    · exact w.elim
  | .block id b, Q, e, h, w => by
    obtain ⟨N, x, s, h1, h2⟩ := wp_sound b _ e h w
    cases x with
    | exit id' =>
      simp only [blkQ] at h2
      by_cases hi : id' = id
      · rw [if_pos hi] at h2
        exact ⟨N, .normal, s, fun n hn => by simp only [ex, h1 n hn, if_pos hi], h2⟩
      · rw [if_neg hi] at h2
        exact ⟨N, .exit id', s, fun n hn => by simp only [ex, h1 n hn, if_neg hi], h2⟩
    | normal => exact ⟨N, _, s, fun n hn => by simp only [ex, h1 n hn], h2⟩
    | ret => exact ⟨N, _, s, fun n hn => by simp only [ex, h1 n hn], h2⟩
    | panic v => exact ⟨N, _, s, fun n hn => by simp only [ex, h1 n hn], h2⟩
  | .loop b, Q, e, h, w => by
    obtain ⟨I, k, h0, hs⟩ := w
    have ih := wp_sound (P := P) b
    induction k using Nat.strongRecOn generalizing e h with
    | ind k ihk =>
      obtain ⟨N, x, s, h1, h2⟩ := ih _ e h (hs k e h h0)
      cases x with
      | normal =>
        obtain ⟨k', hk, hI⟩ := h2
        obtain ⟨N2, x, s2, h3, h4⟩ := ihk k' hk s.e s.h hI
        refine ⟨max N (N2 + 1), x, s2, fun n hn => ?_, h4⟩
        obtain ⟨m, rfl⟩ : ∃ m, n = m + 1 := ⟨n - 1, by omega⟩
        simp only [ex, h1 (m + 1) (by omega)]
        exact h3 m (by omega)
      | exit id => exact ⟨N, _, s, fun n hn => by simp only [ex, h1 n hn], h2⟩
      | ret => exact ⟨N, _, s, fun n hn => by simp only [ex, h1 n hn], h2⟩
      | panic v => exact ⟨N, _, s, fun n hn => by simp only [ex, h1 n hn], h2⟩

def retQ (rs : List AResVar) (Q : AVal → AHeap → Prop) : Post
  | .ret, e, h => wpOp ((resOf ⟨e, h⟩ rs).map fun v => (v, h)) Q
  | .normal, e, h => wpOp ((resOf ⟨e, h⟩ rs).map fun v => (v, h)) Q
  | _, _, _ => False

/-- A function's call. -/
theorem callP {P : AProg} {f : FuncId} {b : ACode} {rs : List AResVar} (hf : Tr.get P f = some ⟨b, rs, none, none⟩) {args : List AVal} {h : AHeap} {Q : AVal → AHeap → Prop}
    (w : wp P b (retQ rs Q) (envOf 0 args) h) : CallP P f args h Q := by
  obtain ⟨N, x, s, h1, h2⟩ := wp_sound b _ _ _ w
  have key : (x = .ret ∨ x = .normal) → ∃ v, resOf s rs = some v ∧ Q v s.h := by
    intro hx
    have : wpOp ((resOf s rs).map fun v => (v, s.h)) Q := by rcases hx with rfl | rfl <;> exact h2
    cases hr : resOf s rs with
    | none => rw [hr] at this; exact this.elim
    | some v => rw [hr] at this; exact ⟨v, rfl, this⟩
  have hx : x = .ret ∨ x = .normal := by cases x <;> first | exact .inl rfl | exact .inr rfl | exact h2.elim
  obtain ⟨v, hr, hq⟩ := key hx
  refine ⟨N + 1, v, s.h, fun n hn => ?_, hq⟩
  obtain ⟨m, rfl⟩ : ∃ m, n = m + 1 := ⟨n - 1, by omega⟩
  show callF P (run P m) f args h = _
  rcases hx with rfl | rfl <;> simp only [callF, hf, h1 m (by omega), hr] <;> rfl

theorem wp_loop {P : AProg} {b : ACode} {Q : Post} {e : Env} {h : AHeap} (I : Nat → Env → AHeap → Prop) (k : Nat) (h0 : I k e h) (hs : ∀ k e h, I k e h → wp P b (loopQ I k Q) e h) : wp P (.loop b) Q e h := ⟨I, k, h0, hs⟩

end Go.AM
