/-
  AM, part 11: equality, maps, lengths, append and copy.
-/
import Derived.Test.YtedomhceacongaaAmSim3
import Derived.ChangeKeysEq
namespace Go.AM
set_option linter.unusedVariables false
set_option linter.unusedSimpArgs false

/-- A type whose values are held against one another as literals. -/
theorem litK_run {P : Program} {w : World} {h : AHeap} {β : Pl} {t : TypeId} {k : LK} (hk : litK P t = some k) {x y : AVal} {xv yv : Value} {b : Bool} (e : litEq k x y = some b) (rx : vrel h β x xv) (ry : vrel h β y yv) (d : Nat) :
    (Op.equalIn (d + 1) t xv yv).run P w = .ok b w ∧ (isAgg t).run P w = .ok false w := by
  unfold litK at hk
  unfold litEq at e
  split at e
  · rename_i k1 a k2 c
    split at e
    · rename_i hkk
      subst hkk
      simp only [Option.some.injEq] at e
      subst e
      simp only [vrel] at rx ry
      subst rx; subst ry
      split at hk
      · rename_i q hu
        exact ⟨run_equalIn_int w d t _ q _ _ hu, by simp [isAgg, run_underlying_of hu]⟩
      · simp at hk
      · simp at hk
      · simp at hk
    · simp at e
  · simp only [Option.some.injEq] at e
    subst e
    simp only [vrel] at rx ry
    subst rx; subst ry
    split at hk
    · simp at hk
    · rename_i hu
      exact ⟨run_equalIn_bool' w d t _ _ hu, by simp [isAgg, run_underlying_of hu]⟩
    · simp at hk
    · simp at hk
  · rename_i p q
    simp only [Option.some.injEq] at e
    subst e
    simp only [vrel] at rx ry
    subst rx; subst ry
    split at hk
    · simp at hk
    · simp at hk
    · rename_i hu
      refine ⟨?_, by simp [isAgg, run_underlying_of hu]⟩
      rw [run_equalIn_string w d t _ _ hu, ByteArray.toList_eq p, ByteArray.toList_eq q]
    · simp at hk
  · simp at e

theorem eqFields_run {P : Program} {w : World} {h : AHeap} {β : Pl} (d : Nat) {X Y : Array Value} : ∀ {fs : List Field} {k : Nat} {ks : List LK} {xs ys : List AVal} {b : Bool}, flatFields P fs k = some ks →
    litEqs ks xs ys = some b → vrels h β xs (X.toList.drop k) → vrels h β ys (Y.toList.drop k) → (Op.eqFields (d + 1) X Y fs).run P w = .ok b w
  | [], k, ks, xs, ys, b, hf, e, rx, ry => by
    simp only [flatFields, Option.some.injEq] at hf
    subst hf
    cases xs <;> cases ys <;> simp [litEqs] at e
    subst e; rfl
  | f :: fs, k, ks, xs, ys, b, hf, e, rx, ry => by
    simp only [flatFields] at hf
    split at hf
    · rename_i hc
      simp only [Bool.and_eq_true, bne_iff_ne, ne_eq, beq_iff_eq] at hc
      simp only [Option.bind_eq_some_iff, Option.map_eq_some_iff] at hf
      obtain ⟨l, hl, ks', hk', rfl⟩ := hf
      cases xs with
      | nil => simp [litEqs] at e
      | cons x xs =>
        cases ys with
        | nil => simp [litEqs] at e
        | cons y ys =>
          simp only [litEqs, Option.bind_eq_some_iff, Option.map_eq_some_iff] at e
          obtain ⟨b1, e1, b2, e2, rfl⟩ := e
          obtain ⟨xv, xw, ex, rx1, rx2⟩ := vrels_cons.1 rx
          obtain ⟨yv, yw, ey, ry1, ry2⟩ := vrels_cons.1 ry
          obtain ⟨q1, q2⟩ := litK_run (w := w) hl e1 rx1 ry1 d
          have gx : X[k]? = some xv := by
            have : (X.toList.drop k)[0]? = some xv := by rw [ex]; rfl
            simpa [List.getElem?_drop] using this
          have gy : Y[k]? = some yv := by
            have : (Y.toList.drop k)[0]? = some yv := by rw [ey]; rfl
            simpa [List.getElem?_drop] using this
          have dx : X.toList.drop (k + 1) = xw := by rw [← List.drop_drop, ex]; rfl
          have dy : Y.toList.drop (k + 1) = yw := by rw [← List.drop_drop, ey]; rfl
          simp only [Op.eqFields]
          rw [if_pos hc.1]
          simp only [Sem.run_bind, part, q2, Result.andThen_ok, Bool.false_eq_true, if_false, hc.2, gx, gy, Sem.run_pure, q1, Sem.run_ite]
          cases b1
          · simp
          · simp only [Bool.not_true, Bool.false_eq_true, if_false, Bool.true_and]
            exact eqFields_run d hk' e2 (by rw [dx]; exact rx2) (by rw [dy]; exact ry2)
    · simp at hf

theorem eqItems_run {P : Program} {w : World} {h : AHeap} {β : Pl} (d : Nat) {E : TypeId} {l : LK} (hl : litK P E = some l) {X Y : Array Value} : ∀ (n k : Nat) {xs ys : List AVal} {b : Bool},
    litEqs (List.replicate n l) xs ys = some b → vrels h β xs (X.toList.drop k) → vrels h β ys (Y.toList.drop k) → (Op.eqItems (d + 1) E 1 X Y (List.range' k n)).run P w = .ok b w
  | 0, k, xs, ys, b, e, rx, ry => by
    cases xs <;> cases ys <;> simp [litEqs] at e
    subst e; rfl
  | n + 1, k, xs, ys, b, e, rx, ry => by
    rw [List.replicate_succ] at e
    cases xs with
    | nil => simp [litEqs] at e
    | cons x xs =>
      cases ys with
      | nil => simp [litEqs] at e
      | cons y ys =>
        simp only [litEqs, Option.bind_eq_some_iff, Option.map_eq_some_iff] at e
        obtain ⟨b1, e1, b2, e2, rfl⟩ := e
        obtain ⟨xv, xw, ex, rx1, rx2⟩ := vrels_cons.1 rx
        obtain ⟨yv, yw, ey, ry1, ry2⟩ := vrels_cons.1 ry
        obtain ⟨q1, q2⟩ := litK_run (w := w) hl e1 rx1 ry1 d
        have gx : X[k]? = some xv := by
          have : (X.toList.drop k)[0]? = some xv := by rw [ex]; rfl
          simpa [List.getElem?_drop] using this
        have gy : Y[k]? = some yv := by
          have : (Y.toList.drop k)[0]? = some yv := by rw [ey]; rfl
          simpa [List.getElem?_drop] using this
        have dx : X.toList.drop (k + 1) = xw := by rw [← List.drop_drop, ex]; rfl
        have dy : Y.toList.drop (k + 1) = yw := by rw [← List.drop_drop, ey]; rfl
        rw [List.range'_succ]
        simp only [Op.eqItems, Sem.run_bind, part, q2, Result.andThen_ok, Bool.false_eq_true, if_false, Nat.mul_one, gx, gy, Sem.run_pure, q1, Sem.run_ite]
        cases b1
        · simp
        · simp only [Bool.not_true, Bool.false_eq_true, if_false, Bool.true_and]
          exact eqItems_run d hl n (k + 1) e2 (by rw [dx]; exact rx2) (by rw [dy]; exact ry2)

theorem litEqs_length : ∀ {ks : List LK} {xs ys : List AVal} {b : Bool}, litEqs ks xs ys = some b → xs.length = ks.length ∧ ys.length = ks.length
  | [], [], [], b, e => ⟨rfl, rfl⟩
  | k :: ks, x :: xs, y :: ys, b, e => by
    simp only [litEqs, Option.bind_eq_some_iff, Option.map_eq_some_iff] at e
    obtain ⟨b1, e1, b2, e2, rfl⟩ := e
    have := litEqs_length e2
    simp [this.1, this.2]
  | [], [], _ :: _, b, e => by simp [litEqs] at e
  | [], _ :: _, _, b, e => by simp [litEqs] at e
  | _ :: _, [], _, b, e => by simp [litEqs] at e
  | _ :: _, _ :: _, [], b, e => by simp [litEqs] at e

theorem equal_run' {P : Program} {w : World} {h : AHeap} {β : Pl} {t : TypeId} {k : EqK} (hk : eqK P t = some k) {x y : AVal} {xv yv : Value} {b : Bool} (e : aeq k x y = some b) (rx : vrel h β x xv) (ry : vrel h β y yv) (d : Nat) :
    (Op.equalIn (d + 2) t xv yv).run P w = .ok b w := by
  unfold eqK at hk
  split at hk
  · -- bool
    rename_i hu
    simp only [Option.some.injEq] at hk; subst hk
    cases x <;> cases y <;> simp [aeq, isNil] at e
    simp only [vrel] at rx ry; subst rx; subst ry; subst e
    exact run_equalIn_bool' w _ t _ _ hu
  · rename_i el hu
    simp only [Option.some.injEq] at hk; subst hk
    cases x <;> cases y <;> simp [aeq, isNil] at e <;> simp only [vrel] at rx ry
    · subst rx; subst ry; subst e; (unfold Op.equalIn; simp only [Sem.run_bind, run_underlying_of hu, Result.andThen_ok]; rfl)
    · obtain ⟨a, rfl, _⟩ := ry; subst rx; subst e; (unfold Op.equalIn; simp only [Sem.run_bind, run_underlying_of hu, Result.andThen_ok]; rfl)
    · obtain ⟨a, rfl, _⟩ := rx; subst ry; subst e; (unfold Op.equalIn; simp only [Sem.run_bind, run_underlying_of hu, Result.andThen_ok]; rfl)
  · rename_i el hu
    simp only [Option.some.injEq] at hk; subst hk
    cases x <;> cases y <;> simp [aeq, isNil] at e <;> simp only [vrel] at rx ry
    · subst rx; subst ry; subst e; (unfold Op.equalIn; simp only [Sem.run_bind, run_underlying_of hu, Result.andThen_ok]; rfl)
    · obtain ⟨a, c, rfl, _⟩ := ry; subst rx; subst e; (unfold Op.equalIn; simp only [Sem.run_bind, run_underlying_of hu, Result.andThen_ok]; rfl)
    · obtain ⟨a, c, rfl, _⟩ := rx; subst ry; subst e; (unfold Op.equalIn; simp only [Sem.run_bind, run_underlying_of hu, Result.andThen_ok]; rfl)
  · rename_i k1 el hu
    simp only [Option.some.injEq] at hk; subst hk
    cases x <;> cases y <;> simp [aeq, isNil] at e <;> simp only [vrel] at rx ry
    · subst rx; subst ry; subst e; (unfold Op.equalIn; simp only [Sem.run_bind, run_underlying_of hu, Result.andThen_ok]; rfl)
    · obtain ⟨a, rfl, _⟩ := ry; subst rx; subst e; (unfold Op.equalIn; simp only [Sem.run_bind, run_underlying_of hu, Result.andThen_ok]; rfl)
    · obtain ⟨a, rfl, _⟩ := rx; subst ry; subst e; (unfold Op.equalIn; simp only [Sem.run_bind, run_underlying_of hu, Result.andThen_ok]; rfl)
  · rename_i p1 p2 p3 hu
    simp only [Option.some.injEq] at hk; subst hk
    cases x <;> cases y <;> simp [aeq, isNil] at e <;> simp only [vrel] at rx ry
    · obtain ⟨a, c, rfl, _⟩ := rx; subst ry; subst e; (unfold Op.equalIn; simp only [Sem.run_bind, run_underlying_of hu, Result.andThen_ok]; rfl)
    · obtain ⟨a, c, rfl, _⟩ := ry; subst rx; subst e; (unfold Op.equalIn; simp only [Sem.run_bind, run_underlying_of hu, Result.andThen_ok]; rfl)
    · subst rx; subst ry; subst e; (unfold Op.equalIn; simp only [Sem.run_bind, run_underlying_of hu, Result.andThen_ok]; rfl)
  · rename_i ms hu
    simp only [Option.some.injEq] at hk; subst hk
    cases x <;> cases y <;> simp [aeq, isNil] at e <;> simp only [vrel] at rx ry
    · obtain ⟨a, rfl, _⟩ := rx; subst ry; subst e; (unfold Op.equalIn; simp only [Sem.run_bind, run_underlying_of hu, Result.andThen_ok]; rfl)
    · obtain ⟨a, rfl, _⟩ := ry; subst rx; subst e; (unfold Op.equalIn; simp only [Sem.run_bind, run_underlying_of hu, Result.andThen_ok]; rfl)
    · subst rx; subst ry; subst e; (unfold Op.equalIn; simp only [Sem.run_bind, run_underlying_of hu, Result.andThen_ok]; rfl)
  · rename_i fs hu
    split at hk
    · rename_i hc
      simp only [Bool.and_eq_true, Bool.not_eq_true'] at hc
      simp only [Option.map_eq_some_iff] at hk
      obtain ⟨ks, hks, rfl⟩ := hk
      cases x <;> cases y <;> simp [aeq] at e
      simp only [vrel] at rx ry
      obtain ⟨X, rfl, rx⟩ := rx
      obtain ⟨Y, rfl, ry⟩ := ry
      have hfo : P.fieldsOf t = fs := by simp [Program.fieldsOf, hu]
      rw [run_equalIn_struct w (d + 1) t X Y (by rw [hfo]; exact hu) hc.1, hfo]
      exact eqFields_run d hks e (by simpa using rx) (by simpa using ry)
    · simp at hk
  · rename_i n el hu
    split at hk
    · rename_i hc
      simp only [Bool.and_eq_true, Bool.not_eq_true', beq_iff_eq] at hc
      simp only [Option.map_eq_some_iff] at hk
      obtain ⟨l, hl, rfl⟩ := hk
      cases x <;> cases y <;> simp [aeq] at e
      simp only [vrel] at rx ry
      obtain ⟨X, rfl, rx⟩ := rx
      obtain ⟨Y, rfl, ry⟩ := ry
      have hsz := hc.1
      simp only [sizeT, Option.map_eq_some_iff] at hsz
      obtain ⟨i, hi, hsz⟩ := hsz
      have hcells : P.cellsOf el = 1 := by simp [Program.cellsOf, hi, hsz]
      rw [run_equalIn_array w (d + 1) X Y hu hi, hcells, List.range_eq_range']
      exact eqItems_run d hl n 0 e (by simpa using rx) (by simpa using ry)
    · simp at hk
  · simp at hk

theorem equal_run {P : Program} {w : World} {h : AHeap} {β : Pl} {t : TypeId} {k : EqK} (hk : eqK P t = some k) {x y : AVal} {xv yv : Value} {b : Bool} (e : aeq k x y = some b) (rx : vrel h β x xv) (ry : vrel h β y yv) :
    (Op.equal t xv yv).run P w = .ok b w := equal_run' hk e rx ry 9998

end Go.AM
