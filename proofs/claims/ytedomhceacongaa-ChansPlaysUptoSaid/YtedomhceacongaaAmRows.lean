/-
  AM, part 31: a slice of flat structs that comes in.
-/
import Derived.Test.YtedomhceacongaaAmIn
namespace Go.AM
open Go.RowKit Go.ChangeShapes Go.WideShapes
set_option linter.unusedVariables false

theorem rowsIn {H : Type} {enc : TypeId × Value → H} {P : Program} {W : World} {t e : TypeId} {α : Type} {en : α → List AVal} {esz : Nat} {v : Value} {d : DataW H} {ps : List MemPlace} {r : Reach} {b0 : Nat}
    (ht : P.underlying t = some (.slice e)) (hc : P.cellsOf e = esz) (hpos : 0 < esz) (hE : ∀ a, (en a).length = esz)
    (hrd : ∀ (fuel : Nat) (cs : List Value) (x : DataW H × List MemPlace), DataW.trod enc P W 0 (fun _ => true) true fuel e cs = some x → ∃ a, ∀ h β, vrels h β (en a) cs)
    (hval : Value.okWide P W r b0 t v) (hd : DataW.Trod enc P W 0 (fun _ => true) true t v d ps) (G : Nat) :
    ∃ (vs : List AVal) (real : Bool) (l : Loc) (av : AVal) (os : List α), Rel (heapIn G vs real) (plIn G l) W ∧ vrel (heapIn G vs real) (plIn G l) av v ∧ SlIn (heapIn G vs real) esz en av os ∧
      ((d = .nil ∧ os = []) ∨ ∃ el rest, d = .slice el rest ∧ el.length = os.length) := by
  obtain ⟨a0, len, cap, rfl⟩ := okWide_slice ht hval
  obtain ⟨fuel, hf⟩ := hd
  rcases DataW.trod_slice ht hf with ⟨hcs, hx⟩ | ⟨a, len', cap', elems, rest, n, _, hcs, hx, hb, hl, hm, hlen, hel, hsp, hns⟩
  · simp [Value.cells] at hcs
    obtain ⟨rfl, rfl, rfl⟩ := hcs
    simp only [Prod.mk.injEq] at hx
    obtain ⟨rfl, rfl⟩ := hx
    exact ⟨[], false, ⟨0, 0, 0⟩, .nils, [], relIn G [] false _ W (by simp), by simp [vrel], .inl (.inl ⟨rfl, rfl⟩), .inl ⟨rfl, rfl⟩⟩
  · simp [Value.cells] at hcs
    obtain ⟨rfl, rfl, rfl⟩ := hcs
    simp only [Prod.mk.injEq] at hx
    obtain ⟨rfl, rfl⟩ := hx
    rw [hc] at hel hsp
    by_cases h0 : cap = 0
    · subst h0
      obtain rfl : len = 0 := by omega
      refine ⟨[], false, ⟨0, 0, 0⟩, .sl G 0 0 0 esz, [], relIn G [] false _ W (by simp), ?_, .inr ⟨rfl, G, 0, rfl, by show G < G + 1; omega, heapIn_gen _ _ _ _⟩, .inr ⟨_, _, rfl, by simp [hlen]⟩⟩
      simp only [vrel]
      exact ⟨a, 0, rfl, by show G < G + 1; omega, by rw [heapIn_gen]; exact Nat.le_refl _, fun _ => ⟨Nat.le_refl _, by simp [plIn], fun h => absurd h (by omega)⟩⟩
    · have each : ∀ i, i < cap → ∃ cs x, W.cells? 0 (a.add (i * esz)) esz = some cs ∧ DataW.trod enc P W 0 (fun _ => true) true n e cs = some x := by
        intro i hi
        by_cases hi2 : i < len
        · have h1 := hel i hi2
          rw [List.getElem?_eq_getElem (by omega), Option.bind_eq_some_iff] at h1
          obtain ⟨cs, h2, h3⟩ := h1
          exact ⟨cs, _, h2, h3⟩
        · obtain ⟨hr1, hr2⟩ := hsp rfl
          have h1 := hr2 (i - len) (by omega)
          rw [show len + (i - len) = i by omega, List.getElem?_eq_getElem (by omega), Option.bind_eq_some_iff] at h1
          obtain ⟨cs, h2, h3⟩ := h1
          exact ⟨cs, _, h2, h3⟩
      obtain ⟨b, off, spot⟩ := a
      have hspot : spot = none := by
        obtain ⟨cs, x, h1, _⟩ := each 0 (by omega)
        obtain ⟨_, h2, h3⟩ := World.cells?_some h1
        have h4 := h3 0 hpos
        rw [List.getElem?_eq_getElem (by omega)] at h4
        simpa [Addr.add] using World.cell?_spot h4
      subst hspot
      have hrow : ∃ c ty fz, W.heap[b]? = some (.cells c ty fz) := by
        obtain ⟨cs, x, h1, _⟩ := each 0 (by omega)
        obtain ⟨_, h2, h3⟩ := World.cells?_some h1
        have h4 := h3 0 hpos
        rw [List.getElem?_eq_getElem (by omega), addr_add, addr_add] at h4
        unfold World.cell? at h4
        simp only at h4
        cases hb : W.heap[b]? with
        | none => rw [hb] at h4; simp at h4
        | some o =>
          cases o with
          | cells c ty fz => exact ⟨c, ty, fz, rfl⟩
          | _ => rw [hb] at h4; simp at h4
      obtain ⟨c, ty, fz, hbk⟩ := hrow
      have at' : ∀ i, i < cap → ∃ cs x, cs.length = esz ∧ (∀ j, j < esz → c[off + i * esz + j]? = cs[j]?) ∧ DataW.trod enc P W 0 (fun _ => true) true n e cs = some x := by
        intro i hi
        obtain ⟨cs, x, h1, h5⟩ := each i hi
        obtain ⟨_, h2, h3⟩ := World.cells?_some h1
        refine ⟨cs, x, h2, fun j hj => ?_, h5⟩
        have h4 := h3 j hj
        rw [addr_add, addr_add] at h4
        rw [← h4]
        simp [World.cell?, hbk]
      have hsize : off + cap * esz ≤ c.size := by
        obtain ⟨cs, x, h2, h3, _⟩ := at' (cap - 1) (by omega)
        have h4 := h3 (esz - 1) (by omega)
        rw [List.getElem?_eq_getElem (by omega)] at h4
        have h5 := (Array.getElem?_eq_some_iff.1 h4).1
        have h6 : cap * esz = (cap - 1) * esz + esz := by
          obtain ⟨m, rfl⟩ : ∃ m, cap = m + 1 := ⟨cap - 1, by omega⟩
          rw [Nat.add_sub_cancel, Nat.add_mul, Nat.one_mul]
        omega
      have hvs : ∀ m, m ≤ len → ∃ os : List α, os.length = m ∧ ∀ h β, vrels h β (os.flatMap en) ((c.toList.drop off).take (m * esz)) := by
        intro m
        induction m with
        | zero => exact fun _ => ⟨[], rfl, fun h β => by simp [vrels]⟩
        | succ m ih =>
          intro hm'
          obtain ⟨os, h1, h2⟩ := ih (by omega)
          obtain ⟨cs, x, h3, h4, h5⟩ := at' m (by omega)
          obtain ⟨o, ho⟩ := hrd n cs x h5
          refine ⟨os ++ [o], by simp [h1], fun h β => ?_⟩
          have hcs : ((c.toList.drop off).drop (m * esz)).take esz = cs := by
            apply List.ext_getElem?
            intro j
            rw [List.getElem?_take]
            by_cases hj : j < esz
            · rw [if_pos hj, List.getElem?_drop, List.getElem?_drop, Array.getElem?_toList, ← h4 j hj]; congr 1; omega
            · rw [if_neg hj, List.getElem?_eq_none (by omega)]
          rw [Nat.add_mul, Nat.one_mul, List.take_add, hcs, List.flatMap_append, List.flatMap_cons, List.flatMap_nil, List.append_nil]
          exact vrels_append (h2 h β) (ho h β)
      obtain ⟨os, ho1, ho2⟩ := hvs len (Nat.le_refl _)
      have hfl : (os.flatMap en).length = len * esz := by rw [flat_len hE, ho1]
      have hle := Nat.mul_le_mul_right esz hl
      refine ⟨os.flatMap en, true, ⟨b, off, cap * esz⟩, .sl G 0 0 len esz, os, relIn G _ true _ W fun _ => ?_, ?_, .inl (.inr ⟨G, 0, 0, os.flatMap en, true, by rw [ho1], by rw [heapIn_get, if_pos rfl]; rfl, by show G < G + 1; omega, by rw [hfl, ho1]; omega, ?_⟩), .inr ⟨_, _, rfl, by rw [List.length_map, hlen, ho1]⟩⟩
      · refine ⟨c, ty, fz, hbk, (by intro h; cases h), hsize, by rw [hfl]; exact hle, ?_⟩
        rw [hfl]
        exact ho2 _ _
      · simp only [vrel]
        exact ⟨⟨b, off, none⟩, cap, rfl, by show G < G + 1; omega, by rw [heapIn_gen]; exact Nat.le_refl _, fun _ => ⟨hl, by simp [plIn], fun _ => by simp [plIn]⟩⟩
      · rw [List.drop_zero, List.take_of_length_le (by rw [hfl, ho1]; exact Nat.le_refl _)]

end Go.AM
