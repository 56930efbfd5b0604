/-
  AM, part 2: the values, the objects and the heap of a machine beside the model's; how they stand for the model's values and worlds.
-/
import Derived.Test.YtedomhceacongaaAmTr
import Derived.LoopN
import Derived.Defers
namespace Go.AM

/-- A value. 'ptr id gen off': cell 'off' of the object 'id', as it stood in its generation 'gen'. 'sl id gen off len esz': 'len' elements of 'esz' cells. -/
inductive AVal where
  | undef
  | bool (b : Bool)
  | int (k : IntKind) (n : Int)
  | flt (k : FloatKind) (bits : Nat)
  | str (s : ByteArray)
  | nilp
  | ptr (id gen off : Nat)
  | nils
  | sl (id gen off len esz : Nat)
  | nilm
  | map (id : Nat)
  | fn (f : Fn) (first captured : List AVal)
  | nilf
  | iface (t : TypeId) (v : AVal)
  | nili
  | agg (vs : List AVal)
  | tup (vs : List AVal)
  deriving Inhabited

/-- An object: nothing is known of it; a row of cells; a map. -/
inductive AObj where
  | hole
  | cells (gen : Nat) (ro : Bool) (vs : List AVal)
  | map (es : List (AVal × AVal))
  deriving Inhabited

/-- 'g': how many package-level variables there are: the objects 0 .. g-1. -/
structure AHeap where
  g : Nat
  n : Nat
  t : Tr AObj

namespace AHeap
def get (h : AHeap) (id : Nat) : AObj := (h.t.get id).getD .hole
def set (h : AHeap) (id : Nat) (o : AObj) : AHeap := { h with t := h.t.set id o }
def push (h : AHeap) (o : AObj) : AHeap := { g := h.g, n := h.n + 1, t := h.t.set h.n o }
def gen (h : AHeap) (id : Nat) : Nat := match h.get id with | .cells g _ _ => g | _ => 0

theorem get_set (h : AHeap) (i j : Nat) (o : AObj) : (h.set i o).get j = if j = i then o else h.get j := by
  unfold get set; rw [Tr.get_set]; split <;> rfl
theorem get_push (h : AHeap) (j : Nat) (o : AObj) : (h.push o).get j = if j = h.n then o else h.get j := by
  unfold get push; rw [Tr.get_set]; split <;> rfl
@[simp] theorem g_set (h : AHeap) (i : Nat) (o : AObj) : (h.set i o).g = h.g := rfl
@[simp] theorem g_push (h : AHeap) (o : AObj) : (h.push o).g = h.g := rfl
@[simp] theorem n_set (h : AHeap) (i : Nat) (o : AObj) : (h.set i o).n = h.n := rfl
@[simp] theorem n_push (h : AHeap) (o : AObj) : (h.push o).n = h.n + 1 := rfl
theorem get_set_same (h : AHeap) (i : Nat) (o : AObj) : (h.set i o).get i = o := by rw [get_set, if_pos rfl]
theorem get_set_ne (h : AHeap) {i j : Nat} (o : AObj) (e : j ≠ i) : (h.set i o).get j = h.get j := by rw [get_set, if_neg e]
theorem get_push_same (h : AHeap) (o : AObj) : (h.push o).get h.n = o := by rw [get_push, if_pos rfl]
theorem get_push_ne (h : AHeap) {j : Nat} (o : AObj) (e : j ≠ h.n) : (h.push o).get j = h.get j := by rw [get_push, if_neg e]
end AHeap

/-- Where an object lies in the model's memory: the block, the first cell, the room from there on. -/
structure Loc where
  b : Nat
  o : Nat
  c : Nat

abbrev Pl := Nat → Loc

def prel (h : AHeap) (β : Pl) (id g off : Nat) (a : Addr) : Prop :=
  id < h.n ∧ g ≤ h.gen id ∧ (g = h.gen id → a = ⟨(β id).b, (β id).o + off, none⟩)

def srel (h : AHeap) (β : Pl) (id g off len esz cap : Nat) (a : Addr) : Prop :=
  id < h.n ∧ g ≤ h.gen id ∧ (g = h.gen id → len ≤ cap ∧ off + cap * esz ≤ (β id).c ∧ (0 < cap → a = ⟨(β id).b, (β id).o + off, none⟩))

mutual
/-- A value stands for a value of the model's. -/
def vrel (h : AHeap) (β : Pl) : AVal → Value → Prop
  | .undef, _ => True
  | .bool b, v => v = .bool b
  | .int k n, v => v = .int k n
  | .flt k n, v => v = .float k n
  | .str s, v => v = .string s
  | .nilp, v => v = .pointer none
  | .ptr id g off, v => ∃ a, v = .pointer (some a) ∧ prel h β id g off a
  | .nils, v => v = .slice none 0 0
  | .sl id g off len esz, v => ∃ a cap, v = .slice (some a) len cap ∧ srel h β id g off len esz cap a
  | .nilm, v => v = .map none
  | .map id, v => ∃ b, v = .map (some b) ∧ id < h.n ∧ (h.gen id = 0 → b = (β id).b)
  | .fn f x y, v => ∃ x' y', v = .func f x' y' ∧ vrels h β x x'.toList ∧ vrels h β y y'.toList
  | .nilf, v => v = .nilFunc
  | .iface t x, v => ∃ x', v = .iface t x' ∧ vrel h β x x'
  | .nili, v => v = .nilIface
  | .agg x, v => ∃ x', v = .agg x' ∧ vrels h β x x'.toList
  | .tup x, v => ∃ x', v = .tuple x' ∧ vrels h β x x'.toList
def vrels (h : AHeap) (β : Pl) : List AVal → List Value → Prop
  | [], vs => vs = []
  | a :: as, vs => ∃ v ws, vs = v :: ws ∧ vrel h β a v ∧ vrels h β as ws
end

/-- May a value lie in one cell? -/
def AVal.cell : AVal → Bool
  | .undef | .agg _ | .tup _ => false
  | _ => true

def AVal.cells : AVal → List AVal
  | .agg vs => vs
  | v => [v]

def erel (h : AHeap) (β : Pl) (es : List (AVal × AVal)) (fs : List MapEntry) : Prop :=
  vrels h β (es.map (·.1)) (fs.map (·.key)) ∧ vrels h β (es.map (·.2)) (fs.map (·.val))

def orel (h : AHeap) (β : Pl) (w : World) (l : Loc) : AObj → Prop
  | .hole => True
  | .cells _ ro vs => ∃ c ty fz, w.heap[l.b]? = some (.cells c ty fz) ∧ (ro = false → fz = (0, 0)) ∧ l.o + l.c ≤ c.size ∧ vs.length ≤ l.c ∧
      vrels h β vs ((c.toList.drop l.o).take vs.length)
  | .map es => ∃ fs clock, w.heap[l.b]? = some (.map fs clock) ∧ erel h β es fs.toList

def AObj.own : AObj → Bool
  | .hole => false
  | .cells _ ro _ => !ro
  | .map _ => true
def AObj.real : AObj → Bool
  | .hole => false
  | _ => true

structure Rel (h : AHeap) (β : Pl) (w : World) : Prop where
  obj : ∀ id, id < h.n → orel h β w (β id) (h.get id)
  inj : ∀ i j, i < h.n → j < h.n → i ≠ j → (h.get i).own = true → (h.get j).real = true → (β i).b ≠ (β j).b
  top : ∀ id, h.n ≤ id → h.get id = .hole
  glob : ∀ i, i < h.g → i < h.n ∧ (h.get i).own = false ∧ h.gen i = 0 ∧ (β i).b = i ∧ (β i).o = 0

/-- What values ask of a change. -/
def HExt (h : AHeap) (β : Pl) (h' : AHeap) (β' : Pl) : Prop :=
  h.n ≤ h'.n ∧ ∀ id, id < h.n → h.gen id ≤ h'.gen id ∧ (h.gen id = h'.gen id → β' id = β id)

/-- A change: of the blocks that were there only those of own objects have changed. -/
structure Ext (h : AHeap) (β : Pl) (w : World) (h' : AHeap) (β' : Pl) (w' : World) : Prop where
  ext : HExt h β h' β'
  size : w.heap.size ≤ w'.heap.size
  keep : ∀ b, b < w.heap.size → (∀ id, id < h.n → (h.get id).own = true → (β id).b ≠ b) → w'.heap[b]? = w.heap[b]?
  ro : ∀ id, id < h.n → (h.get id).own = false → h'.get id = h.get id
  own : ∀ id, id < h'.n → (h'.get id).real = true → (id < h.n ∧ (h.get id).real = true ∧ (β' id).b = (β id).b) ∨ w.heap.size ≤ (β' id).b
  os : w'.os = w.os
  out : w'.output = w.output
  gl : h'.g = h.g
  fz : ∀ a, w'.frozen? a = w.frozen? a

theorem vrels_nil {h : AHeap} {β : Pl} {vs : List Value} : vrels h β [] vs ↔ vs = [] := by simp [vrels]
theorem vrels_cons {h : AHeap} {β : Pl} {a : AVal} {as : List AVal} {vs : List Value} : vrels h β (a :: as) vs ↔ ∃ v ws, vs = v :: ws ∧ vrel h β a v ∧ vrels h β as ws := by simp [vrels]
theorem vrels_cons_cons {h : AHeap} {β : Pl} {a : AVal} {as : List AVal} {v : Value} {vs : List Value} : vrels h β (a :: as) (v :: vs) ↔ vrel h β a v ∧ vrels h β as vs := by
  rw [vrels_cons]; constructor
  · rintro ⟨v', ws, e, h1, h2⟩; cases e; exact ⟨h1, h2⟩
  · rintro ⟨h1, h2⟩; exact ⟨v, vs, rfl, h1, h2⟩

theorem vrels_length {h : AHeap} {β : Pl} : ∀ {as : List AVal} {vs : List Value}, vrels h β as vs → vs.length = as.length
  | [], vs, r => by rw [vrels_nil] at r; subst r; rfl
  | a :: as, vs, r => by
    obtain ⟨v, ws, rfl, _, h2⟩ := vrels_cons.1 r
    simp [vrels_length h2]

theorem vrels_append {h : AHeap} {β : Pl} : ∀ {as : List AVal} {vs : List Value} {bs : List AVal} {ws : List Value}, vrels h β as vs → vrels h β bs ws → vrels h β (as ++ bs) (vs ++ ws)
  | [], vs, bs, ws, r, s => by rw [vrels_nil] at r; subst r; exact s
  | a :: as, vs, bs, ws, r, s => by
    obtain ⟨v, us, rfl, h1, h2⟩ := vrels_cons.1 r
    exact vrels_cons_cons.2 ⟨h1, vrels_append h2 s⟩

theorem vrels_drop {h : AHeap} {β : Pl} : ∀ (n : Nat) {as : List AVal} {vs : List Value}, vrels h β as vs → vrels h β (as.drop n) (vs.drop n)
  | 0, as, vs, r => by simpa using r
  | n + 1, [], vs, r => by rw [vrels_nil] at r; subst r; simp [vrels]
  | n + 1, a :: as, vs, r => by
    obtain ⟨v, us, rfl, h1, h2⟩ := vrels_cons.1 r
    simpa using vrels_drop n h2

theorem vrels_take {h : AHeap} {β : Pl} : ∀ (n : Nat) {as : List AVal} {vs : List Value}, vrels h β as vs → vrels h β (as.take n) (vs.take n)
  | 0, as, vs, r => by simp [vrels]
  | n + 1, [], vs, r => by rw [vrels_nil] at r; subst r; simp [vrels]
  | n + 1, a :: as, vs, r => by
    obtain ⟨v, us, rfl, h1, h2⟩ := vrels_cons.1 r
    simpa using vrels_cons_cons.2 ⟨h1, vrels_take n h2⟩

theorem vrels_get {h : AHeap} {β : Pl} : ∀ {as : List AVal} {vs : List Value}, vrels h β as vs → ∀ {i : Nat} {a : AVal}, as[i]? = some a → ∃ v, vs[i]? = some v ∧ vrel h β a v
  | [], vs, r, i, a, e => by simp at e
  | b :: as, vs, r, i, a, e => by
    obtain ⟨v, us, rfl, h1, h2⟩ := vrels_cons.1 r
    cases i with
    | zero => simp at e; subst e; exact ⟨v, rfl, h1⟩
    | succ i => simpa using vrels_get h2 (by simpa using e)

theorem vrels_set {h : AHeap} {β : Pl} {b : AVal} {x : Value} (hb : vrel h β b x) : ∀ {as : List AVal} {vs : List Value} (i : Nat), vrels h β as vs → vrels h β (as.set i b) (vs.set i x)
  | [], vs, i, r => by rw [vrels_nil] at r; subst r; simp [vrels]
  | a :: as, vs, i, r => by
    obtain ⟨v, us, rfl, h1, h2⟩ := vrels_cons.1 r
    cases i with
    | zero => simpa using vrels_cons_cons.2 ⟨hb, h2⟩
    | succ i => simpa using vrels_cons_cons.2 ⟨h1, vrels_set hb i h2⟩

theorem HExt.refl (h : AHeap) (β : Pl) : HExt h β h β := ⟨Nat.le_refl _, fun _ _ => ⟨Nat.le_refl _, fun _ => rfl⟩⟩

theorem HExt.trans {h : AHeap} {β : Pl} {h1 : AHeap} {β1 : Pl} {h2 : AHeap} {β2 : Pl} (x : HExt h β h1 β1) (y : HExt h1 β1 h2 β2) : HExt h β h2 β2 :=
  ⟨Nat.le_trans x.1 y.1, fun id hid =>
    have a := x.2 id hid
    have b := y.2 id (Nat.lt_of_lt_of_le hid x.1)
    ⟨Nat.le_trans a.1 b.1, fun e => by
      have e1 : h.gen id = h1.gen id := by omega
      have e2 : h1.gen id = h2.gen id := by omega
      rw [b.2 e2, a.2 e1]⟩⟩

theorem prel.mono {h : AHeap} {β : Pl} {h' : AHeap} {β' : Pl} (x : HExt h β h' β') {id g off : Nat} {a : Addr} (r : prel h β id g off a) : prel h' β' id g off a := by
  obtain ⟨r1, r2, r3⟩ := r
  have e := x.2 id r1
  refine ⟨Nat.lt_of_lt_of_le r1 x.1, Nat.le_trans r2 e.1, fun eg => ?_⟩
  have e1 : g = h.gen id := by omega
  rw [e.2 (by omega)]; exact r3 e1

theorem srel.mono {h : AHeap} {β : Pl} {h' : AHeap} {β' : Pl} (x : HExt h β h' β') {id g off len esz cap : Nat} {a : Addr} (r : srel h β id g off len esz cap a) : srel h' β' id g off len esz cap a := by
  obtain ⟨r1, r2, r3⟩ := r
  have e := x.2 id r1
  refine ⟨Nat.lt_of_lt_of_le r1 x.1, Nat.le_trans r2 e.1, fun eg => ?_⟩
  have e1 : g = h.gen id := by omega
  rw [e.2 (by omega)]; exact r3 e1

mutual
theorem vrel.mono {h : AHeap} {β : Pl} {h' : AHeap} {β' : Pl} (x : HExt h β h' β') : ∀ {a : AVal} {v : Value}, vrel h β a v → vrel h' β' a v
  | .undef, v, r => by simp [vrel]
  | .bool b, v, r => by simpa [vrel] using r
  | .int k n, v, r => by simpa [vrel] using r
  | .flt k n, v, r => by simpa [vrel] using r
  | .str s, v, r => by simpa [vrel] using r
  | .nilp, v, r => by simpa [vrel] using r
  | .ptr id g off, v, r => by
    simp only [vrel] at r ⊢; obtain ⟨a, e, p⟩ := r; exact ⟨a, e, p.mono x⟩
  | .nils, v, r => by simpa [vrel] using r
  | .sl id g off len esz, v, r => by
    simp only [vrel] at r ⊢; obtain ⟨a, c, e, p⟩ := r; exact ⟨a, c, e, p.mono x⟩
  | .nilm, v, r => by simpa [vrel] using r
  | .map id, v, r => by
    simp only [vrel] at r ⊢
    obtain ⟨b, e, r1, r2⟩ := r
    have y := x.2 id r1
    exact ⟨b, e, Nat.lt_of_lt_of_le r1 x.1, fun e0 => by rw [y.2 (by omega)]; exact r2 (by omega)⟩
  | .fn f p q, v, r => by
    simp only [vrel] at r ⊢; obtain ⟨p', q', e, r1, r2⟩ := r; exact ⟨p', q', e, vrels.mono x r1, vrels.mono x r2⟩
  | .nilf, v, r => by simpa [vrel] using r
  | .iface t p, v, r => by
    simp only [vrel] at r ⊢; obtain ⟨p', e, r1⟩ := r; exact ⟨p', e, vrel.mono x r1⟩
  | .nili, v, r => by simpa [vrel] using r
  | .agg p, v, r => by
    simp only [vrel] at r ⊢; obtain ⟨p', e, r1⟩ := r; exact ⟨p', e, vrels.mono x r1⟩
  | .tup p, v, r => by
    simp only [vrel] at r ⊢; obtain ⟨p', e, r1⟩ := r; exact ⟨p', e, vrels.mono x r1⟩
theorem vrels.mono {h : AHeap} {β : Pl} {h' : AHeap} {β' : Pl} (x : HExt h β h' β') : ∀ {a : List AVal} {v : List Value}, vrels h β a v → vrels h' β' a v
  | [], v, r => by simpa [vrels] using r
  | a :: as, v, r => by
    obtain ⟨v, ws, e, r1, r2⟩ := vrels_cons.1 r
    subst e
    exact vrels_cons_cons.2 ⟨vrel.mono x r1, vrels.mono x r2⟩
end

end Go.AM
