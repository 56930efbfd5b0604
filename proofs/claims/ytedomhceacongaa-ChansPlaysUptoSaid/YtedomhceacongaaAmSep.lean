/-
  AM, part 28: slices that own their object, and what a call leaves alone.
-/
import Derived.Test.YtedomhceacongaaAmSym
namespace Go.AM
set_option linter.unusedSimpArgs false
set_option linter.unusedVariables false

/-- What a code leaves alone: all that was there but F; and what it owns behind it is of F or new. -/
structure HFrame (h h' : AHeap) (F F' : List Nat) : Prop where
  n : h.n ≤ h'.n
  g : h'.g = h.g
  get : ∀ j, j < h.n → j ∉ F → h'.get j = h.get j
  new : ∀ j, j ∈ F' → j ∈ F ∨ h.n ≤ j
  lt : ∀ j, j ∈ F' → j < h'.n

theorem HFrame.refl {h : AHeap} {F : List Nat} (l : ∀ j, j ∈ F → j < h.n) : HFrame h h F F := ⟨Nat.le_refl _, rfl, fun _ _ _ => rfl, fun _ h => .inl h, l⟩
theorem HFrame.trans {h h1 h2 : AHeap} {F F1 F2 : List Nat} (a : HFrame h h1 F F1) (b : HFrame h1 h2 F1 F2) : HFrame h h2 F F2 where
  n := Nat.le_trans a.n b.n
  g := b.g.trans a.g
  get := fun j hj hn => by
    rw [b.get j (Nat.lt_of_lt_of_le hj a.n) (fun hm => ?_), a.get j hj hn]
    rcases a.new j hm with e | e
    · exact hn e
    · omega
  new := fun j hj => by
    rcases b.new j hj with e | e
    · exact a.new j e
    · exact .inr (Nat.le_trans a.n e)
  lt := b.lt
/-- A wider view. -/
theorem HFrame.wide {h h' : AHeap} {F F' : List Nat} (a : HFrame h h' F F') {G G' : List Nat} (hF : ∀ j, j ∈ F → j ∈ G) (hG : ∀ j, j ∈ G' → j ∈ F' ∨ j ∈ G) (hl : ∀ j, j ∈ G → j < h.n) : HFrame h h' G G' where
  n := a.n
  g := a.g
  get := fun j hj hn => a.get j hj fun hm => hn (hF j hm)
  new := fun j hj => by
    rcases hG j hj with e | e
    · rcases a.new j e with q | q
      · exact .inl (hF j q)
      · exact .inr q
    · exact .inl e
  lt := fun j hj => by
    rcases hG j hj with e | e
    · exact a.lt j e
    · exact Nat.lt_of_lt_of_le (hl j e) a.n

/-- Rows that are read. -/
def SlRd (h : AHeap) (esz : Nat) {α : Type} (enc : α → List AVal) (v : AVal) (l : List α) : Prop :=
  (v = .nils ∧ l = []) ∨ ∃ id g off vs ro, v = .sl id g off l.length esz ∧ h.get id = .cells g ro vs ∧ id < h.n ∧ off + l.length * esz ≤ vs.length ∧ (vs.drop off).take (l.length * esz) = l.flatMap enc

/-- Rows that own their object, and end where it ends. -/
def SlOf (h : AHeap) (esz : Nat) {α : Type} (enc : α → List AVal) (v : AVal) (l : List α) (F : List Nat) : Prop :=
  (v = .nils ∧ l = [] ∧ F = []) ∨ ∃ id g off vs, v = .sl id g off l.length esz ∧ h.get id = .cells g false vs ∧ id < h.n ∧ off + l.length * esz = vs.length ∧ vs.drop off = l.flatMap enc ∧ F = [id]

variable {α : Type} {enc : α → List AVal} {esz : Nat} {h h' : AHeap} {v : AVal} {l : List α} {F : List Nat}

theorem SlOf.rd (s : SlOf h esz enc v l F) : SlRd h esz enc v l := by
  rcases s with ⟨a, b, _⟩ | ⟨id, g, off, vs, a, b, c, d, e, _⟩
  · exact .inl ⟨a, b⟩
  · exact .inr ⟨id, g, off, vs, false, a, b, c, by omega, by rw [← e, List.take_of_length_le]; simp; omega⟩
theorem SlOf.frame (s : SlOf h esz enc v l F) (hn : h.n ≤ h'.n) (k : ∀ j, j ∈ F → h'.get j = h.get j) : SlOf h' esz enc v l F := by
  rcases s with ⟨a, b, c⟩ | ⟨id, g, off, vs, a, b, c, d, e, f⟩
  · exact .inl ⟨a, b, c⟩
  · exact .inr ⟨id, g, off, vs, a, by rw [k id (by simp [f])]; exact b, by omega, d, e, f⟩
theorem SlOf.lt (s : SlOf h esz enc v l F) : ∀ j, j ∈ F → j < h.n := by
  rcases s with ⟨a, b, c⟩ | ⟨id, g, off, vs, a, b, c, d, e, f⟩
  · simp [c]
  · simp [f, c]
theorem SlRd.len (s : SlRd h esz enc v l) (h' : AHeap) : lenV h' v = some (.int .i64 l.length, h') := by
  rcases s with ⟨a, b⟩ | ⟨id, g, off, vs, ro, a, b, c, d, e⟩
  · rw [a, b]; rfl
  · rw [a]; rfl
theorem SlOf.len (s : SlOf h esz enc v l F) (h' : AHeap) : lenV h' v = some (.int .i64 l.length, h') := s.rd.len h'

theorem flat_len {l : List α} (hE : ∀ a, (enc a).length = esz) : (l.flatMap enc).length = l.length * esz := by
  induction l with
  | nil => simp
  | cons a l ih => simp only [List.flatMap_cons, List.length_append, hE, ih, List.length_cons, Nat.add_mul]; omega
theorem flat_drop {l : List α} (hE : ∀ a, (enc a).length = esz) : ∀ (i : Nat), (l.flatMap enc).drop (i * esz) = (l.drop i).flatMap enc := by
  induction l with
  | nil => simp
  | cons a l ih =>
    intro i
    cases i with
    | zero => simp
    | succ i =>
      simp only [List.flatMap_cons, List.drop_succ_cons]
      rw [List.drop_append, ← ih i, hE, List.drop_eq_nil_of_le (by rw [hE, Nat.add_mul]; omega)]
      simp only [List.nil_append]
      congr 1
      rw [Nat.add_mul]; omega

theorem mul_lt_len {i n esz : Nat} (h : i < n) : i * esz + esz ≤ n * esz := by
  have := Nat.mul_le_mul_right esz (show i + 1 ≤ n by omega)
  rw [Nat.add_mul] at this; omega

/-- An element that is read: where it lies, and its cells. -/
theorem SlRd.at (s : SlRd h esz enc v l) (hE : ∀ a, (enc a).length = esz) {i : Nat} {a : α} (hi : l[i]? = some a) :
    ∃ id g off vs ro, v = .sl id g off l.length esz ∧ h.get id = .cells g ro vs ∧ id < h.n ∧ off + i * esz + esz ≤ vs.length ∧ (vs.drop (off + i * esz)).take esz = enc a ∧ i < l.length := by
  have hlt : i < l.length := (List.getElem?_eq_some_iff.1 hi).1
  rcases s with ⟨_, b⟩ | ⟨id, g, off, vs, ro, e1, e2, e3, e4, e5⟩
  · subst b; simp at hlt
  · have h1 := mul_lt_len (esz := esz) hlt
    refine ⟨id, g, off, vs, ro, e1, e2, e3, by omega, ?_, hlt⟩
    have h2 : ((l.flatMap enc).drop (i * esz)).take esz = enc a := by
      rw [flat_drop hE]
      have : l.drop i = a :: l.drop (i + 1) := by
        rw [List.drop_eq_getElem_cons hlt]; congr 1
        have := List.getElem?_eq_getElem hlt
        rw [hi] at this; exact (Option.some.inj this).symm
      rw [this, List.flatMap_cons, List.take_append_of_le_length (by rw [hE]; omega), List.take_of_length_le (by rw [hE]; omega)]
    rw [← h2, ← e5, List.drop_take, List.take_take, List.drop_drop, Nat.min_eq_left (by omega)]
theorem SlRd.ix (s : SlRd h esz enc v l) (hE : ∀ a, (enc a).length = esz) {i : Nat} {a : α} (hi : l[i]? = some a) (k : IntKind) :
    ∃ id g off vs ro, ixV h esz v (.int k i) = some (.ptr id g off, h) ∧ h.get id = .cells g ro vs ∧ id < h.n ∧ off + esz ≤ vs.length ∧ (vs.drop off).take esz = enc a := by
  obtain ⟨id, g, off, vs, ro, e1, e2, e3, e4, e5, e6⟩ := s.at hE hi
  refine ⟨id, g, off + i * esz, vs, ro, ?_, e2, e3, e4, e5⟩
  rw [e1, ix_sl h e2 (Int.natCast_nonneg _) (by omega)]
  simp
theorem one_of {vs : List AVal} {off : Nat} {a : AVal} (e : (vs.drop off).take 1 = [a]) : vs[off]? = some a := by
  have h1 : ((vs.drop off).take 1)[0]? = some a := by rw [e]; rfl
  rw [List.getElem?_take, if_pos (by omega), List.getElem?_drop] at h1
  exact h1
/-- An element of one cell. -/
theorem SlRd.ix1 {enc : α → AVal} (s : SlRd h 1 (fun a => [enc a]) v l) {i : Nat} {a : α} (hi : l[i]? = some a) (k : IntKind) :
    ∃ id g off vs ro, ixV h 1 v (.int k i) = some (.ptr id g off, h) ∧ h.get id = .cells g ro vs ∧ id < h.n ∧ vs[off]? = some (enc a) := by
  obtain ⟨id, g, off, vs, ro, e1, e2, e3, e4, e5⟩ := s.ix (fun _ => rfl) hi k
  exact ⟨id, g, off, vs, ro, e1, e2, e3, one_of e5⟩

/-- A row that isn't empty: its first, and the rest. -/
theorem SlOf.cons {a : α} (s : SlOf h esz enc v (a :: l) F) (hE : ∀ a, (enc a).length = esz) :
    ∃ id g off vs, v = .sl id g off (l.length + 1) esz ∧ h.get id = .cells g false vs ∧ id < h.n ∧ off + esz ≤ vs.length ∧ (vs.drop off).take esz = enc a ∧ F = [id] ∧ SlOf h esz enc (.sl id g (off + esz) l.length esz) l F := by
  rcases s with ⟨_, b, _⟩ | ⟨id, g, off, vs, e1, e2, e3, e4, e5, e6⟩
  · cases b
  · have e7 : off + esz + l.length * esz = vs.length := by rw [← e4, List.length_cons, Nat.add_mul]; omega
    refine ⟨id, g, off, vs, e1, e2, e3, by omega, ?_, e6, .inr ⟨id, g, off + esz, vs, rfl, e2, e3, e7, ?_, e6⟩⟩
    · rw [e5, List.flatMap_cons, List.take_append_of_le_length (by rw [hE]; omega), List.take_of_length_le (by rw [hE]; omega)]
    · rw [← List.drop_drop, e5, List.flatMap_cons, List.drop_append_of_le_length (by rw [hE]; omega), List.drop_of_length_le (by rw [hE]; omega)]
      rfl
/-- The rest behind the first. -/
theorem SlOf.tail {a : α} (s : SlOf h esz enc v (a :: l) F) (hE : ∀ a, (enc a).length = esz) (k : IntKind) :
    ∃ v', slV h esz v (some (.int k 1)) none = some (v', h) ∧ SlOf h esz enc v' l F := by
  rcases s with ⟨_, b, _⟩ | ⟨id, g, off, vs, e1, e2, e3, e4, e5, e6⟩
  · cases b
  · refine ⟨.sl id g (off + esz) l.length esz, ?_, .inr ⟨id, g, off + esz, vs, rfl, e2, e3, ?_, ?_, e6⟩⟩
    · rw [e1, sl_from h e2 (by omega) (by simp only [List.length_cons]; omega)]
      simp
    · rw [← e4, List.length_cons, Nat.add_mul]; omega
    · rw [← List.drop_drop, e5, List.flatMap_cons, List.drop_append_of_le_length (by rw [hE]; omega), List.drop_of_length_le (by rw [hE]; omega)]
      rfl

theorem SlRd.elems (s : SlRd h esz enc v l) : h.elems esz v = some (l.length, l.flatMap enc) := by
  rcases s with ⟨a, b⟩ | ⟨id, g, off, vs, ro, a, b, c, d, e⟩
  · subst a b; rfl
  · rw [a]
    simp only [AHeap.elems, c, and_self, if_true, AHeap.rd, b, d, e, Option.map_some]

/-- Rows appended. -/
theorem SlOf.app (s : SlOf h esz enc v l F) {y : AVal} {l2 : List α} (t : SlRd h esz enc y l2) (hE : ∀ a, (enc a).length = esz) (hC : ∀ a, (enc a).all (·.cell) = true) {bytes : Nat} (hb : (l.length + l2.length) * bytes ≤ 1099511627776) {k : AVal → AHeap → Prop}
    (w : ∀ v' h' F', SlOf h' esz enc v' (l ++ l2) F' → HFrame h h' F F' → k v' h') : wpOp (h.app esz bytes v y) k := by
  have hcs : (l2.flatMap enc).all (·.cell) = true := by
    rw [List.all_eq_true]; intro x hx
    obtain ⟨a, _, ha⟩ := List.mem_flatMap.1 hx
    exact List.all_eq_true.1 (hC a) x ha
  unfold AHeap.app
  rw [t.elems, Option.bind_some]
  simp only
  have hlt := s.lt
  rcases s with ⟨a, b, c⟩ | ⟨id, g, off, vs, e1, e2, e3, e4, e5, e6⟩
  · subst a b c
    simp only
    by_cases h0 : l2.length = 0
    · rw [if_pos h0]
      have : l2 = [] := List.eq_nil_of_length_eq_zero h0
      subst this
      exact w _ _ [] (.inl ⟨rfl, rfl, rfl⟩) (HFrame.refl (by simp))
    · rw [if_neg h0, if_pos ⟨by simpa using hb, hcs⟩]
      refine w _ _ [h.n] (.inr ⟨h.n, 0, 0, _, rfl, AHeap.get_push_same _ _, by simp, ?_, by simp, rfl⟩) ⟨by simp, rfl, fun j hj _ => AHeap.get_push_ne h _ (by omega), fun j hj => .inr (by simp at hj; omega), fun j hj => by simp at hj; simp; omega⟩
      rw [flat_len hE]; simp
  · subst e1 e6
    simp only
    by_cases h0 : l2.length = 0
    · rw [if_pos h0, if_pos (by simp [AHeap.gen, e2])]
      have : l2 = [] := List.eq_nil_of_length_eq_zero h0
      subst this
      refine w _ _ [id] ?_ (HFrame.refl hlt)
      rw [List.append_nil]
      exact .inr ⟨id, g, off, vs, rfl, e2, e3, e4, e5, rfl⟩
    · rw [if_neg h0, if_pos ⟨trivial, e3, hb, hcs⟩]
      simp only [e2]
      rw [if_pos ⟨trivial, by omega⟩]
      have e7 : (vs.drop off).take (l.length * esz) = l.flatMap enc := by rw [e5, List.take_of_length_le (by rw [flat_len hE]; omega)]
      refine w _ _ [id] (.inr ⟨id, g + 1, 0, _, by rw [List.length_append], AHeap.get_set_same _ _ _, e3, ?_, ?_, rfl⟩) ⟨by simp, rfl, fun j hj hn => AHeap.get_set_ne h _ (by simpa using hn), fun j hj => .inl hj, hlt⟩
      · rw [e7, List.length_append, List.length_append, flat_len hE, flat_len hE, Nat.add_mul]; simp
      · rw [e7]; simp

theorem HFrame.push (h : AHeap) (o : AObj) {F : List Nat} (l : ∀ j, j ∈ F → j < h.n) : HFrame h (h.push o) F F where
  n := by simp
  g := rfl
  get := fun j hj _ => AHeap.get_push_ne h o (by omega)
  new := fun j hj => .inl hj
  lt := fun j hj => by have := l j hj; simp; omega
/-- An object of its own changes. -/
theorem HFrame.set (h : AHeap) (i : Nat) (o : AObj) {F : List Nat} (hi : i ∈ F) (l : ∀ j, j ∈ F → j < h.n) : HFrame h (h.set i o) F F where
  n := by simp
  g := rfl
  get := fun j hj hn => AHeap.get_set_ne h o (by intro e; subst e; exact hn hi)
  new := fun j hj => .inl hj
  lt := fun j hj => by simpa using l j hj

/-- One element appended. -/
theorem SlOf.app1 (s : SlOf h esz enc v l F) (hE : ∀ a, (enc a).length = esz) (hC : ∀ a, (enc a).all (·.cell) = true) {bytes : Nat} (hb : (l.length + 1) * bytes ≤ 1099511627776) (a : α) {k : AVal → AHeap → Prop}
    (w : ∀ v' h' F', SlOf h' esz enc v' (l ++ [a]) F' → HFrame h h' F F' → k v' h') : wpOp ((h.push (.cells 0 false (enc a))).app esz bytes v (.sl h.n 0 0 1 esz)) k := by
  have f := HFrame.push h (.cells 0 false (enc a)) s.lt
  refine SlOf.app (s.frame (h' := h.push (.cells 0 false (enc a))) f.n fun j hj => AHeap.get_push_ne h _ (by have := s.lt j hj; omega)) (l2 := [a]) ?_ hE hC (by simpa using hb) fun v' h' F' s' f' => w v' h' F' s' (f.trans f')
  refine .inr ⟨h.n, 0, 0, enc a, false, rfl, AHeap.get_push_same _ _, by simp, by simp [hE], ?_⟩
  simp [List.take_of_length_le, hE]

theorem HFrame.setTmp {h h1 : AHeap} {F F' : List Nat} (f : HFrame h h1 F F') {i : Nat} (hi : h.n ≤ i) (o : AObj) : HFrame h (h1.set i o) F F' where
  n := f.n
  g := f.g
  get := fun j hj hn => by rw [AHeap.get_set_ne h1 o (by omega)]; exact f.get j hj hn
  new := f.new
  lt := f.lt
theorem HFrame.pushTmp {h h1 : AHeap} {F F' : List Nat} (f : HFrame h h1 F F') (o : AObj) : HFrame h (h1.push o) F F' where
  n := by have := f.n; simp; omega
  g := f.g
  get := fun j hj hn => by rw [AHeap.get_push_ne h1 o (by have := f.n; omega)]; exact f.get j hj hn
  new := f.new
  lt := fun j hj => by have := f.lt j hj; simp; omega
theorem HFrame.out {h h1 : AHeap} {F F' : List Nat} (f : HFrame h h1 F F') {i : Nat} (hF : i ∉ F) (hi : i < h.n) : i ∉ F' := fun hm => by
  rcases f.new i hm with e | e
  · exact hF e
  · omega

theorem SlRd.beq (s : SlRd h esz enc v l) : v.beq v = true := by
  rcases s with ⟨rfl, _⟩ | ⟨_, _, _, _, _, rfl, _⟩
  · rfl
  · exact AM.beq_sl _ _ _ _ _
theorem SlOf.beq (s : SlOf h esz enc v l F) : v.beq v = true := s.rd.beq
theorem SlRd.cells (s : SlRd h esz enc v l) : v.cells = [v] ∧ v.cell = true := by
  rcases s with ⟨rfl, _⟩ | ⟨_, _, _, _, _, rfl, _⟩ <;> exact ⟨rfl, rfl⟩

theorem SlRd.mono (s : SlRd h esz enc v l) (hn : h.n ≤ h'.n) (k : ∀ j, j < h.n → (∃ x, h.get j = x) → h'.get j = h.get j) : SlRd h' esz enc v l := by
  rcases s with ⟨a, b⟩ | ⟨id, g, off, vs, ro, a, b, c, d, e⟩
  · exact .inl ⟨a, b⟩
  · exact .inr ⟨id, g, off, vs, ro, a, by rw [k id c ⟨_, rfl⟩]; exact b, by omega, d, e⟩
theorem SlRd.keep (s : SlRd h esz enc v l) {F' : List Nat} (f : HFrame h h' [] F') : SlRd h' esz enc v l := s.mono f.n fun j hj _ => f.get j hj (by simp)
theorem SlOf.nil : SlOf h esz enc .nils ([] : List α) [] := .inl ⟨rfl, rfl, rfl⟩
theorem wrap64 {n : Int} (h1 : -9223372036854775808 ≤ n) (h2 : n ≤ 9223372036854775807) : IntKind.i64.wrap n = n := by
  rw [wrap_eq]; simp only; split <;> omega
theorem wrapU64 {n : Int} (h1 : 0 ≤ n) (h2 : n ≤ 18446744073709551615) : IntKind.u64.wrap n = n := by
  rw [wrap_eq]; simp only; omega
theorem take_succ_of {l : List α} {i : Nat} {a : α} (hi : l[i]? = some a) : l.take (i + 1) = l.take i ++ [a] := by
  rw [List.take_add_one, hi]; rfl

theorem SlOf.push (s : SlOf h esz enc v l F) (o : AObj) : SlOf (h.push o) esz enc v l F := s.frame (by simp) fun j hj => AHeap.get_push_ne h o (by have := s.lt j hj; omega)
theorem SlOf.set (s : SlOf h esz enc v l F) {i : Nat} (hi : i ∉ F) (o : AObj) : SlOf (h.set i o) esz enc v l F := s.frame (by simp) fun j hj => AHeap.get_set_ne h o (by intro e; subst e; exact hi hj)
theorem SlOf.tmp (s : SlOf h esz enc v l F) (o o' : AObj) : SlOf ((h.push o).set h.n o') esz enc v l F := (s.push o).set (fun hm => Nat.lt_irrefl _ (s.lt _ hm)) o'

theorem SlRd.upto (s : SlRd h esz enc v l) (hE : ∀ a, (enc a).length = esz) {m : Nat} (hm : m ≤ l.length) (k : IntKind) : ∃ v', slV h esz v none (some (.int k m)) = some (v', h) ∧ SlRd h esz enc v' (l.take m) := by
  rcases s with ⟨a, b⟩ | ⟨id, g, off, vs, ro, a, b, c, d, e⟩
  · subst a b
    have : m = 0 := by simpa using hm
    subst this
    exact ⟨.nils, rfl, .inl ⟨rfl, rfl⟩⟩
  · subst a
    have h1 := Nat.mul_le_mul_right esz hm
    refine ⟨.sl id g off m esz, ?_, .inr ⟨id, g, off, vs, ro, by rw [List.length_take, Nat.min_eq_left hm], b, c, by rw [List.length_take, Nat.min_eq_left hm]; omega, ?_⟩⟩
    · rw [AM.sl_st2 h (Int.natCast_nonneg _) (by omega), b, AM.slO_cells]; rfl
    · rw [List.length_take, Nat.min_eq_left hm]
      have h2 : ((l.take m).flatMap enc ++ (l.drop m).flatMap enc).take (m * esz) = (l.take m).flatMap enc := by
        rw [List.take_append_of_le_length (by rw [flat_len hE, List.length_take, Nat.min_eq_left hm]; exact Nat.le_refl _), List.take_of_length_le (by rw [flat_len hE, List.length_take, Nat.min_eq_left hm]; exact Nat.le_refl _)]
      rw [← List.flatMap_append, List.take_append_drop] at h2
      rw [← h2, ← e, List.take_take, Nat.min_eq_left h1]

theorem SlRd.uptoAt (s : SlRd h esz enc v l) (hE : ∀ a, (enc a).length = esz) {m : Nat} (hm : m ≤ l.length) (k : IntKind) {h1 : AHeap} (hk : ∀ j, j < h.n → h1.get j = h.get j) :
    ∃ v', slV h1 esz v none (some (.int k m)) = some (v', h1) ∧ SlRd h esz enc v' (l.take m) := by
  obtain ⟨v', e1, e2⟩ := s.upto hE hm k
  refine ⟨v', ?_, e2⟩
  rcases s with ⟨a, b⟩ | ⟨id, g, off, vs, ro, a, b, c, d, e⟩
  · subst a b
    have : m = 0 := by simpa using hm
    subst this
    simpa [slV] using e1
  · subst a
    rw [AM.sl_st2 h (Int.natCast_nonneg _) (by omega), b, AM.slO_cells] at e1
    rw [AM.sl_st2 h1 (Int.natCast_nonneg _) (by omega), hk id c, b, AM.slO_cells]
    simpa using e1

theorem HFrame.left {h h1 h2 : AHeap} {A B A2 : List Nat} (hf : HFrame h h1 [] (A ++ B)) (f : HFrame h1 h2 A A2) : HFrame h h2 [] (A2 ++ B) where
  n := Nat.le_trans hf.n f.n
  g := f.g.trans hf.g
  get := fun j hj _ => (f.get j (Nat.lt_of_lt_of_le hj hf.n) fun hm => by
    rcases hf.new j (by simp [hm]) with q | q
    · cases q
    · omega).trans (hf.get j hj (by simp))
  new := fun j hj => by
    rcases List.mem_append.1 hj with q | q
    · rcases f.new j q with q | q
      · exact hf.new j (by simp [q])
      · exact .inr (Nat.le_trans hf.n q)
    · exact hf.new j (by simp [q])
  lt := fun j hj => by
    rcases List.mem_append.1 hj with q | q
    · exact f.lt j q
    · exact Nat.lt_of_lt_of_le (hf.lt j (by simp [q])) f.n
theorem HFrame.swap {h h1 : AHeap} {A B : List Nat} (hf : HFrame h h1 [] (A ++ B)) : HFrame h h1 [] (B ++ A) :=
  ⟨hf.n, hf.g, hf.get, fun j hj => hf.new j (by simp only [List.mem_append] at hj ⊢; exact hj.symm), fun j hj => hf.lt j (by simp only [List.mem_append] at hj ⊢; exact hj.symm)⟩
theorem HFrame.right {h h1 h2 : AHeap} {A B B2 : List Nat} (hf : HFrame h h1 [] (A ++ B)) (f : HFrame h1 h2 B B2) : HFrame h h2 [] (A ++ B2) := (hf.swap.left f).swap
/-- What is apart stays so. -/
theorem HFrame.dis {h h1 : AHeap} {A A2 B : List Nat} (f : HFrame h h1 A A2) (hd : ∀ j, j ∈ B → j ∉ A) (hl : ∀ j, j ∈ B → j < h.n) : ∀ j, j ∈ B → j ∉ A2 := fun j hj => f.out (hd j hj) (hl j hj)


/-- Rows that come in: read, or of no length at a place of which nothing is known. -/
def SlIn (h : AHeap) (esz : Nat) {α : Type} (enc : α → List AVal) (v : AVal) (l : List α) : Prop :=
  SlRd h esz enc v l ∨ (l = [] ∧ ∃ id off, v = .sl id 0 off 0 esz ∧ id < h.n ∧ h.gen id = 0)
theorem SlIn.len (s : SlIn h esz enc v l) (h' : AHeap) : lenV h' v = some (.int .i64 l.length, h') := by
  rcases s with s | ⟨rfl, id, off, rfl, _⟩
  · exact s.len h'
  · rfl
theorem SlIn.mono (s : SlIn h esz enc v l) (hn : h.n ≤ h'.n) (k : ∀ j, j < h.n → h'.get j = h.get j) : SlIn h' esz enc v l := by
  rcases s with s | ⟨rfl, id, off, rfl, e1, e2⟩
  · exact .inl (s.mono hn fun j hj _ => k j hj)
  · exact .inr ⟨rfl, id, off, rfl, by omega, by unfold AHeap.gen at e2 ⊢; rw [k id e1]; exact e2⟩
theorem SlIn.keep (s : SlIn h esz enc v l) {F' : List Nat} (f : HFrame h h' [] F') : SlIn h' esz enc v l := s.mono f.n fun j hj => f.get j hj (by simp)
theorem SlIn.rd (s : SlIn h esz enc v l) {i : Nat} {a : α} (hi : l[i]? = some a) : SlRd h esz enc v l := by
  rcases s with s | ⟨rfl, _⟩
  · exact s
  · simp at hi
theorem SlIn.uptoAt (s : SlIn h esz enc v l) (hE : ∀ a, (enc a).length = esz) {m : Nat} (hm : m ≤ l.length) (k : IntKind) {h1 : AHeap} (hk : ∀ j, j < h.n → h1.get j = h.get j) :
    ∃ v', slV h1 esz v none (some (.int k m)) = some (v', h1) ∧ SlIn h esz enc v' (l.take m) := by
  rcases s with s | ⟨rfl, id, off, rfl, e1, e2⟩
  · obtain ⟨v', a, b⟩ := s.uptoAt hE hm k hk
    exact ⟨v', a, .inl b⟩
  · obtain rfl : m = 0 := by simpa using hm
    refine ⟨.sl id 0 off 0 esz, ?_, .inr ⟨by simp, id, off, rfl, e1, e2⟩⟩
    rw [AM.sl_st2 h1 (by omega) (by omega), hk id e1]
    unfold AHeap.gen at e2
    cases hg : h.get id with
    | cells g ro vs => rw [hg] at e2; simp only at e2; subst e2; rfl
    | hole => rfl
    | map es => rfl

/-- The heap of a call that is handed rows: the package-level variables, and the rows, which stay. -/
def heapIn (G : Nat) (vs : List AVal) (real : Bool) : AHeap := ⟨G, G + 1, Tr.set .nil G (if real then .cells 0 true vs else .hole)⟩
def plIn (G : Nat) (l : Loc) : Pl := fun i => if i = G then l else ⟨i, 0, 0⟩
theorem heapIn_get (G : Nat) (vs : List AVal) (real : Bool) (j : Nat) : (heapIn G vs real).get j = if j = G then (if real then .cells 0 true vs else .hole) else .hole := by
  unfold heapIn AHeap.get
  rw [Tr.get_set]
  split
  · rfl
  · rw [Tr.get_nil]; rfl
theorem heapIn_gen (G : Nat) (vs : List AVal) (real : Bool) (j : Nat) : (heapIn G vs real).gen j = 0 := by
  unfold AHeap.gen
  rw [heapIn_get]
  by_cases e : j = G
  · rw [if_pos e]; cases real <;> rfl
  · rw [if_neg e]
theorem heapIn_own (G : Nat) (vs : List AVal) (real : Bool) (j : Nat) : ((heapIn G vs real).get j).own = false := by
  rw [heapIn_get]
  by_cases e : j = G
  · rw [if_pos e]; cases real <;> rfl
  · rw [if_neg e]; rfl
theorem relIn (G : Nat) (vs : List AVal) (real : Bool) (l : Loc) (w : World) (ho : real = true → orel (heapIn G vs real) (plIn G l) w l (.cells 0 true vs)) : Rel (heapIn G vs real) (plIn G l) w where
  obj := fun id _ => by
    rw [heapIn_get]
    by_cases e : id = G
    · subst e
      rw [if_pos rfl]
      have : plIn id l id = l := by simp [plIn]
      rw [this]
      cases real with
      | false => trivial
      | true => exact ho rfl
    · rw [if_neg e]; trivial
  inj := fun i j _ _ _ h => by rw [heapIn_own] at h; cases h
  top := fun id hid => by
    rw [heapIn_get, if_neg]
    have : (heapIn G vs real).n = G + 1 := rfl
    omega
  glob := fun i hi => by
    have hi' : i < G := hi
    refine ⟨by show i < G + 1; omega, heapIn_own _ _ _ _, heapIn_gen _ _ _ _, ?_, ?_⟩ <;> simp [plIn, Nat.ne_of_lt hi']

end Go.AM
