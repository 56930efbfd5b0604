/-
  AM, part 3: what a change of one object, and a new object, do to the standing of a heap for a world.
-/
import Derived.Test.YtedomhceacongaaAmCore
namespace Go.AM

theorem AObj.real_of_own {o : AObj} (h : o.own = true) : o.real = true := by cases o <;> simp_all [AObj.own, AObj.real]

theorem Ext.refl (h : AHeap) (β : Pl) (w : World) : Ext h β w h β w where
  ext := HExt.refl h β
  size := Nat.le_refl _
  keep := fun _ _ _ => rfl
  ro := fun _ _ _ => rfl
  own := fun _ hid ho => .inl ⟨hid, ho, rfl⟩
  os := rfl
  out := rfl
  gl := rfl
  fz := fun _ => rfl

theorem Ext.trans {h : AHeap} {β : Pl} {w : World} {h1 : AHeap} {β1 : Pl} {w1 : World} {h2 : AHeap} {β2 : Pl} {w2 : World}
    (x : Ext h β w h1 β1 w1) (y : Ext h1 β1 w1 h2 β2 w2) : Ext h β w h2 β2 w2 where
  ext := x.ext.trans y.ext
  size := Nat.le_trans x.size y.size
  keep := fun b hb hk => by
    have e1 := x.keep b hb hk
    have e2 := y.keep b (Nat.lt_of_lt_of_le hb x.size) (fun id hid ho => by
      rcases x.own id hid (AObj.real_of_own ho) with ⟨q1, q2, q3⟩ | q3
      · rw [q3]
        refine hk id q1 ?_
        cases hq : (h.get id).own with
        | true => rfl
        | false => rw [x.ro id q1 hq] at ho; rw [hq] at ho; cases ho
      · omega)
    rw [e2, e1]
  ro := fun id hid ho => by
    have e1 := x.ro id hid ho
    have e2 := y.ro id (Nat.lt_of_lt_of_le hid x.ext.1) (by rw [e1]; exact ho)
    rw [e2, e1]
  own := fun id hid ho => by
    rcases y.own id hid ho with ⟨a1, a2, a3⟩ | a3
    · rcases x.own id a1 a2 with ⟨b1, b2, b3⟩ | b3
      · exact .inl ⟨b1, b2, by rw [a3, b3]⟩
      · exact .inr (by rw [a3]; exact b3)
    · exact .inr (Nat.le_trans x.size a3)
  os := by rw [y.os, x.os]
  out := by rw [y.out, x.out]
  gl := by rw [y.gl, x.gl]
  fz := fun a => (y.fz a).trans (x.fz a)

def updP (β : Pl) (id : Nat) (l : Loc) : Pl := fun j => if j = id then l else β j
@[simp] theorem updP_same (β : Pl) (id : Nat) (l : Loc) : updP β id l id = l := by simp [updP]
theorem updP_ne (β : Pl) {id j : Nat} (l : Loc) (e : j ≠ id) : updP β id l j = β j := by simp [updP, e]
theorem updP_self (β : Pl) (id : Nat) : updP β id (β id) = β := by funext j; unfold updP; split <;> simp_all

/-- A real object's block is there. -/
theorem orel.lt {h : AHeap} {β : Pl} {w : World} {l : Loc} {o : AObj} (r : orel h β w l o) (hr : o.real = true) : l.b < w.heap.size := by
  cases o with
  | hole => simp [AObj.real] at hr
  | cells g ro vs =>
    obtain ⟨c, ty, fz, e, _⟩ := r
    exact (Array.getElem?_eq_some_iff.1 e).1
  | map es =>
    obtain ⟨fs, k, e, _⟩ := r
    exact (Array.getElem?_eq_some_iff.1 e).1

theorem erel.mono {h : AHeap} {β : Pl} {h' : AHeap} {β' : Pl} (x : HExt h β h' β') {es : List (AVal × AVal)} {fs : List MapEntry} (r : erel h β es fs) : erel h' β' es fs :=
  ⟨vrels.mono x r.1, vrels.mono x r.2⟩

theorem orel.mono {h : AHeap} {β : Pl} {w : World} {h' : AHeap} {β' : Pl} {w' : World} (x : HExt h β h' β') {l : Loc} {o : AObj} (r : orel h β w l o)
    (hw : o.real = true → w'.heap[l.b]? = w.heap[l.b]?) : orel h' β' w' l o := by
  cases o with
  | hole => trivial
  | cells g ro vs =>
    obtain ⟨c, ty, fz, e, r1, r2, r3, r4⟩ := r
    exact ⟨c, ty, fz, by rw [hw rfl]; exact e, r1, r2, r3, vrels.mono x r4⟩
  | map es =>
    obtain ⟨fs, k, e, r1⟩ := r
    exact ⟨fs, k, by rw [hw rfl]; exact e, r1.mono x⟩

/-- ONE OBJECT CHANGES. -/
theorem Rel.upd {h : AHeap} {β : Pl} {w w' : World} (R : Rel h β w) {id : Nat} (hid : id < h.n) (ho : (h.get id).own = true) {o : AObj} {l : Loc}
    (hl : l.b = (β id).b ∨ w.heap.size ≤ l.b)
    (hg : h.gen id ≤ (h.set id o).gen id ∧ (h.gen id = (h.set id o).gen id → l = β id))
    (hsize : w.heap.size ≤ w'.heap.size) (hkeep : ∀ b, b < w.heap.size → b ≠ (β id).b → w'.heap[b]? = w.heap[b]?) (hos : w'.os = w.os) (hout : w'.output = w.output) (hfz : ∀ a, w'.frozen? a = w.frozen? a)
    (hr : HExt h β (h.set id o) (updP β id l) → orel (h.set id o) (updP β id l) w' l o) :
    Rel (h.set id o) (updP β id l) w' ∧ Ext h β w (h.set id o) (updP β id l) w' := by
  have hx : HExt h β (h.set id o) (updP β id l) := by
    refine ⟨Nat.le_refl _, fun j hj => ?_⟩
    by_cases e : j = id
    · subst e; exact ⟨hg.1, fun e => by rw [updP_same]; exact hg.2 e⟩
    · have : (h.set id o).gen j = h.gen j := by unfold AHeap.gen; rw [AHeap.get_set_ne h o e]
      rw [this]; exact ⟨Nat.le_refl _, fun _ => updP_ne β l e⟩
  have hreal : ∀ j, j < h.n → (h.get j).real = true → (β j).b < w.heap.size := fun j hj hr => (R.obj j hj).lt hr
  refine ⟨⟨fun j hj => ?_, fun i j hi hj hij hio hjr => ?_, fun j hj => ?_, fun j hj => ?_⟩, ⟨hx, hsize, fun b hb hk => ?_, fun j hj hjo => ?_, fun j hj hjo => ?_, hos, hout, rfl, hfz⟩⟩
  · by_cases e : j = id
    · subst e; rw [AHeap.get_set_same, updP_same]; exact hr hx
    · rw [AHeap.get_set_ne h o e, updP_ne β l e]
      refine (R.obj j hj).mono hx fun hjr => hkeep _ (hreal j hj hjr) ?_
      exact fun e' => R.inj id j hid hj (Ne.symm e) ho hjr e'.symm
  · by_cases ei : i = id
    · subst ei
      have ej : j ≠ i := Ne.symm hij
      rw [AHeap.get_set_ne h o ej] at hjr
      rw [updP_same, updP_ne β l ej]
      rcases hl with hl | hl
      · rw [hl]; exact R.inj i j hid hj hij ho hjr
      · have := hreal j hj hjr; omega
    · rw [AHeap.get_set_ne h o ei] at hio
      by_cases ej : j = id
      · subst ej
        rw [updP_same, updP_ne β l ei]
        rcases hl with hl | hl
        · rw [hl]; exact R.inj i j hi hid hij hio (AObj.real_of_own ho)
        · have := hreal i hi (AObj.real_of_own hio); omega
      · rw [AHeap.get_set_ne h o ej] at hjr
        rw [updP_ne β l ei, updP_ne β l ej]
        exact R.inj i j hi hj hij hio hjr
  · rw [AHeap.get_set_ne h o (by simp at hj; omega)]; exact R.top j hj
  · obtain ⟨g1, g2, g3, g4, g5⟩ := R.glob j hj
    have e : j ≠ id := by intro e; subst e; simp [ho] at g2
    have e1 : (h.set id o).gen j = h.gen j := by unfold AHeap.gen; rw [AHeap.get_set_ne h o e]
    rw [AHeap.get_set_ne h o e, e1, updP_ne β l e]
    exact ⟨g1, g2, g3, g4, g5⟩
  · exact hkeep b hb fun e => hk id hid ho e.symm
  · exact AHeap.get_set_ne h o (by intro e; subst e; simp [ho] at hjo)
  · by_cases e : j = id
    · subst e
      rw [updP_same]
      rcases hl with hl | hl
      · exact .inl ⟨hid, AObj.real_of_own ho, hl⟩
      · exact .inr hl
    · rw [AHeap.get_set_ne h o e] at hjo
      rw [updP_ne β l e]
      exact .inl ⟨hj, hjo, rfl⟩

/-- A NEW OBJECT. -/
theorem Rel.new {h : AHeap} {β : Pl} {w w' : World} (R : Rel h β w) {o : AObj} {l : Loc} (hl : o.real = true → w.heap.size ≤ l.b)
    (hsize : w.heap.size ≤ w'.heap.size) (hkeep : ∀ b, b < w.heap.size → w'.heap[b]? = w.heap[b]?) (hos : w'.os = w.os) (hout : w'.output = w.output) (hfz : ∀ a, w'.frozen? a = w.frozen? a)
    (hr : HExt h β (h.push o) (updP β h.n l) → orel (h.push o) (updP β h.n l) w' l o) :
    Rel (h.push o) (updP β h.n l) w' ∧ Ext h β w (h.push o) (updP β h.n l) w' := by
  have hx : HExt h β (h.push o) (updP β h.n l) := by
    refine ⟨by simp, fun j hj => ?_⟩
    have e : j ≠ h.n := by omega
    have : (h.push o).gen j = h.gen j := by unfold AHeap.gen; rw [AHeap.get_push_ne h o e]
    rw [this]; exact ⟨Nat.le_refl _, fun _ => updP_ne β l e⟩
  have hreal : ∀ j, j < h.n → (h.get j).real = true → (β j).b < w.heap.size := fun j hj hr => (R.obj j hj).lt hr
  refine ⟨⟨fun j hj => ?_, fun i j hi hj hij hio hjr => ?_, fun j hj => ?_, fun j hj => ?_⟩, ⟨hx, hsize, fun b hb _ => hkeep b hb, fun j hj hjo => ?_, fun j hj hjo => ?_, hos, hout, rfl, hfz⟩⟩
  · by_cases e : j = h.n
    · subst e; rw [AHeap.get_push_same, updP_same]; exact hr hx
    · have hj' : j < h.n := by simp at hj; omega
      rw [AHeap.get_push_ne h o e, updP_ne β l e]
      exact (R.obj j hj').mono hx fun hjr => hkeep _ (hreal j hj' hjr)
  · simp only [AHeap.n_push] at hi hj
    by_cases ei : i = h.n
    · subst ei
      have ej : j ≠ h.n := Ne.symm hij
      rw [AHeap.get_push_same] at hio
      rw [AHeap.get_push_ne h o ej] at hjr
      rw [updP_same, updP_ne β l ej]
      have := hreal j (by omega) hjr
      have := hl (AObj.real_of_own hio)
      omega
    · rw [AHeap.get_push_ne h o ei] at hio
      by_cases ej : j = h.n
      · subst ej
        rw [AHeap.get_push_same] at hjr
        rw [updP_same, updP_ne β l ei]
        have := hreal i (by omega) (AObj.real_of_own hio)
        have := hl hjr
        omega
      · rw [AHeap.get_push_ne h o ej] at hjr
        rw [updP_ne β l ei, updP_ne β l ej]
        exact R.inj i j (by omega) (by omega) hij hio hjr
  · simp only [AHeap.n_push] at hj
    rw [AHeap.get_push_ne h o (by omega)]; exact R.top j (by omega)
  · obtain ⟨g1, g2, g3, g4, g5⟩ := R.glob j hj
    have e : j ≠ h.n := by omega
    have e1 : (h.push o).gen j = h.gen j := by unfold AHeap.gen; rw [AHeap.get_push_ne h o e]
    rw [AHeap.get_push_ne h o e, e1, updP_ne β l e]
    exact ⟨by simp; omega, g2, g3, g4, g5⟩
  · exact AHeap.get_push_ne h o (by omega)
  · by_cases e : j = h.n
    · subst e
      rw [AHeap.get_push_same] at hjo
      rw [updP_same]; exact .inr (hl hjo)
    · rw [AHeap.get_push_ne h o e] at hjo
      rw [updP_ne β l e]
      exact .inl ⟨by simp at hj; omega, hjo, rfl⟩

/-- A world that differs in what a heap does not speak of. -/
theorem Rel.same {h : AHeap} {β : Pl} {w w' : World} (R : Rel h β w) (hw : w'.heap = w.heap) (hos : w'.os = w.os) (hout : w'.output = w.output) : Rel h β w' ∧ Ext h β w h β w' := by
  refine ⟨⟨fun j hj => (R.obj j hj).mono (HExt.refl h β) (fun _ => by rw [hw]), R.inj, R.top, R.glob⟩, ⟨HExt.refl h β, by rw [hw]; exact Nat.le_refl _, fun b _ _ => by rw [hw], fun _ _ _ => rfl, fun j hj ho => .inl ⟨hj, ho, rfl⟩, hos, hout, rfl, fun a => by unfold World.frozen?; rw [hw]⟩⟩

/-- New blocks that no object takes. -/
theorem Rel.more {h : AHeap} {β : Pl} {w w' : World} (R : Rel h β w) (hsize : w.heap.size ≤ w'.heap.size) (hw : ∀ b, b < w.heap.size → w'.heap[b]? = w.heap[b]?) (hos : w'.os = w.os) (hout : w'.output = w.output) (hfz : ∀ a, w'.frozen? a = w.frozen? a) :
    Rel h β w' ∧ Ext h β w h β w' := by
  refine ⟨⟨fun j hj => (R.obj j hj).mono (HExt.refl h β) (fun hr => hw _ ((R.obj j hj).lt hr)), R.inj, R.top, R.glob⟩, ⟨HExt.refl h β, hsize, fun b hb _ => hw b hb, fun _ _ _ => rfl, fun j hj ho => .inl ⟨hj, ho, rfl⟩, hos, hout, rfl, hfz⟩⟩

end Go.AM
