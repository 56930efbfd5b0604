/-
  AM, part 29: from a reading of the arguments to the machine's heap, and from what the machine answers to what the row asks.
-/
import Derived.Test.YtedomhceacongaaAmSep
import Derived.ProofKit
import Derived.Carry
import Derived.ChangeSlices
namespace Go.AM
set_option linter.unusedSimpArgs false
open Go.RowKit Go.ChangeShapes Go.WideShapes
set_option linter.unusedVariables false

/-- What the machine answers, the model answers. -/
theorem calls_of {P : Program} {AP : AProg} (ok : ProgOk P AP) {f : FuncId} {args : List AVal} {h : AHeap} {β : Pl} {w : World} {vs : Array Value} {Q : AVal → AHeap → Prop}
    (c : CallP AP f args h Q) (R : Rel h β w) (hg : h.g = P.globals.size) (hv : vrels h β args vs.toList) (hno : ∀ id, id < h.n → (h.get id).own = false) (hq : ∀ r h', Q r h' → r = .bool true) :
    Calls P f vs w fun e w' => e = .returned (.bool true) ∧ Grown w w' ∧ ∀ b, b < w.heap.size → w'.heap[b]? = w.heap[b]? := by
  obtain ⟨N, v, h', e, q⟩ := c
  have := hq v h' q
  subst this
  refine (((sound ok N).1 f args _ _ _ (e N (Nat.le_refl _))).2 β w vs R hg hv).mono ?_
  rintro e w' ⟨β', R', X, x, rfl, hx⟩
  simp only [vrel] at hx
  subst hx
  exact ⟨rfl, X.grown hno, fun b hb => X.keep b hb fun id hid ho => by rw [hno id hid] at ho; cases ho⟩

theorem trodAll_stays {H : Type} {enc : TypeId × Value → H} {P : Program} {W W' : World} (hl : laidOutB P = true) (hk : ∀ b, b < W.heap.size → W'.heap[b]? = W.heap[b]?) {sp : Nat → Bool} :
    ∀ {ts : List TypeId} {vs : List Value} {ds : List (DataW H)} {ps : List MemPlace}, (∀ t, t ∈ ts → P.readableRec t = true ∧ t < P.types.size) → DataW.TrodAll enc P W 0 (fun _ => true) true ts vs ds ps →
      (∀ p, p ∈ ps → p.block < W.heap.size) → (∀ p, p ∈ ps → sp p.block = true) → DataW.TrodAll enc P W' 0 sp true ts vs ds ps
  | [], [], [], ps, _, h, _, _ => h
  | t :: ts, v :: vs, d :: ds, ps, ht, h, hlt, hs => by
    obtain ⟨p, q, h1, h2, rfl⟩ := h
    refine ⟨p, q, WideElems.Trod_stays hl (ht t List.mem_cons_self).1 (ht t List.mem_cons_self).2 h1 (fun x hx => ?_) (fun x hx => hs x (List.mem_append_left _ hx)), trodAll_stays hl hk (fun t h => ht t (List.mem_cons_of_mem _ h)) h2 (fun x hx => hlt x (List.mem_append_right _ hx)) (fun x hx => hs x (List.mem_append_right _ hx)), rfl⟩
    have hb := hlt x (List.mem_append_left _ hx)
    cases x with
    | cell b o => exact World.cell?_of_block (w := W) (hk b hb)
    | map b => exact hk b hb
  | [], v :: vs, _, _, _, h, _, _ => h.elim
  | [], [], _ :: _, _, _, h, _, _ => h.elim
  | _ :: _, [], _, _, _, h, _, _ => h.elim
  | _ :: _, _ :: _, [], _, _, h, _, _ => h.elim

/-- A slice of whole numbers that comes in. -/
theorem intsIn {H : Type} {enc : TypeId × Value → H} {P : Program} {W : World} {t e : TypeId} {k : IntKind} {v : Value} {d : DataW H} {ps : List MemPlace} {r : Reach} {b0 : Nat}
    (ht : P.underlying t = some (.slice e)) (he : P.underlying e = some (.int k)) (hc : P.cellsOf e = 1) (hval : Value.okWide P W r b0 t v) (hd : DataW.Trod enc P W 0 (fun _ => true) true t v d ps) (G : Nat) :
    ∃ (vs : List AVal) (real : Bool) (l : Loc) (av : AVal) (ns : List Int), Rel (heapIn G vs real) (plIn G l) W ∧ vrel (heapIn G vs real) (plIn G l) av v ∧ SlIn (heapIn G vs real) 1 (fun n => [.int k n]) av ns ∧
      (∀ n, n ∈ ns → (Lit.int k n).wf = true) ∧ ((d = .nil ∧ ns = []) ∨ ∃ rest, d = .slice (ChangeShapes.lits k ns) rest) ∧ ns.length ≤ maxLen := by
  obtain ⟨a0, len, cap, rfl⟩ := okWide_slice ht hval
  obtain ⟨fuel, hf⟩ := hd
  rcases open_ints ht he hc hf with ⟨hcs, hx⟩ | ⟨a, len', cap', zs, hcs, _, hl, hm, hz, hx, hcell, hwz⟩
  · simp [Value.cells] at hcs
    obtain ⟨rfl, rfl, rfl⟩ := hcs
    simp only [Prod.mk.injEq] at hx
    obtain ⟨rfl, rfl⟩ := hx
    exact ⟨[], false, ⟨0, 0, 0⟩, .nils, [], relIn G [] false _ W (by simp), by simp [vrel], .inl (.inl ⟨rfl, rfl⟩), by simp, .inl ⟨rfl, rfl⟩, by simp⟩
  · simp [Value.cells] at hcs
    obtain ⟨rfl, rfl, rfl⟩ := hcs
    simp only [Prod.mk.injEq] at hx
    obtain ⟨rfl, rfl⟩ := hx
    simp only [if_true] at hz
    by_cases h0 : cap = 0
    · subst h0
      have : len = 0 := by omega
      subst this
      refine ⟨[], false, ⟨0, 0, 0⟩, .sl G 0 0 0 1, [], relIn G [] false _ W (by simp), ?_, .inr ⟨rfl, G, 0, rfl, by show G < G + 1; omega, heapIn_gen _ _ _ _⟩, by simp, .inr ⟨lits k zs, by simp [lits]⟩, by simp⟩
      simp only [vrel]
      refine ⟨a, 0, rfl, by show G < G + 1; omega, by rw [heapIn_gen]; exact Nat.le_refl _, fun _ => ⟨Nat.le_refl _, by simp [plIn], fun h => absurd h (by omega)⟩⟩
    · obtain ⟨b, off, spot⟩ := a
      have hspot : spot = none := by simpa [Addr.add] using World.cell?_spot (hcell 0 (by omega))
      subst hspot
      have hcell' : ∀ j, j < zs.length → W.cell? ⟨b, off + j, none⟩ = some (.int k (zs.getD j 0)) := fun j hj => by rw [← addr_add]; exact hcell j hj
      have hrow : ∃ c ty fz, W.heap[b]? = some (.cells c ty fz) := by
        have h1 := hcell' 0 (by omega)
        unfold World.cell? at h1
        simp only at h1
        cases hb : W.heap[b]? with
        | none => rw [hb] at h1; simp at h1
        | some o =>
          cases o with
          | cells c ty fz => exact ⟨c, ty, fz, rfl⟩
          | _ => rw [hb] at h1; simp at h1
      obtain ⟨c, ty, fz, hb⟩ := hrow
      have hcc : ∀ j, j < zs.length → c[off + j]? = some (.int k (zs.getD j 0)) := fun j hj => by
        have h1 := hcell' j hj
        simpa [World.cell?, hb] using h1
      have hsize : off + cap ≤ c.size := by
        have := (Array.getElem?_eq_some_iff.1 (hcc (cap - 1) (by omega))).1
        omega
      have hzl : (zs.take len).length = len := by rw [List.length_take]; omega
      refine ⟨(zs.take len).map fun n => .int k n, true, ⟨b, off, cap⟩, .sl G 0 0 len 1, zs.take len, relIn G _ true _ W fun _ => ?_, ?_, .inl (.inr ⟨G, 0, 0, (zs.take len).map fun n => .int k n, true, by rw [hzl], by rw [heapIn_get, if_pos rfl]; rfl, by show G < G + 1; omega, by simp, ?_⟩), fun n hn => hwz n (List.mem_of_mem_take hn), .inr ⟨_, rfl⟩, by rw [hzl]; omega⟩
      · refine ⟨c, ty, fz, hb, (by intro h; cases h), hsize, by rw [List.length_map, hzl]; exact hl, ?_⟩
        have hvs : ∀ (m : Nat), m ≤ len → vrels (heapIn G ((zs.take len).map fun n => .int k n) true) (plIn G ⟨b, off, cap⟩) ((zs.take m).map fun n => .int k n) ((c.toList.drop off).take m) := by
          intro m
          induction m with
          | zero => intro _; simp [vrels]
          | succ m ih =>
            intro hm'
            have hi : zs[m]? = some (zs.getD m 0) := by rw [List.getD_eq_getElem?_getD, List.getElem?_eq_getElem (by omega)]; rfl
            have hci : (c.toList.drop off)[m]? = some (.int k (zs.getD m 0)) := by
              rw [List.getElem?_drop, Array.getElem?_toList]; exact hcc m (by omega)
            rw [take_succ_of hi, take_succ_of hci, List.map_append]
            exact vrels_append (ih (by omega)) (vrels_cons_cons.2 ⟨by simp [vrel], by simp [vrels]⟩)
        rw [List.length_map, hzl]
        exact hvs len (Nat.le_refl _)
      · simp only [vrel]
        refine ⟨⟨b, off, none⟩, cap, rfl, by show G < G + 1; omega, by rw [heapIn_gen]; exact Nat.le_refl _, fun _ => ⟨hl, by simp [plIn], fun _ => by simp [plIn]⟩⟩
      · rw [List.drop_zero, List.take_of_length_le (by simp)]
        induction zs.take len with
        | nil => rfl
        | cons x r ih => simp [ih]

end Go.AM
