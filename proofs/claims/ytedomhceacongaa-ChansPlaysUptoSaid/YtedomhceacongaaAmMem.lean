/-
  AM, part 4: cells read, cells written, rows made and rows appended to: here and in the model.
-/
import Derived.Test.YtedomhceacongaaAmRel
import Derived.Laws.CopyRow
import Derived.Laws.Cells
namespace Go.AM

theorem addr_add (b o n : Nat) : (⟨b, o, none⟩ : Addr).add n = ⟨b, o + n, none⟩ := by unfold Addr.add; split <;> simp_all

theorem oneCell_of {h : AHeap} {β : Pl} {a : AVal} {v : Value} (ha : a.cell = true) (r : vrel h β a v) : v.oneCell' = true := by
  cases a with
  | undef => simp [AVal.cell] at ha
  | agg => simp [AVal.cell] at ha
  | tup => simp [AVal.cell] at ha
  | bool b => simp only [vrel] at r; subst r; rfl
  | int k n => simp only [vrel] at r; subst r; rfl
  | flt k n => simp only [vrel] at r; subst r; rfl
  | str s => simp only [vrel] at r; subst r; rfl
  | nilp => simp only [vrel] at r; subst r; rfl
  | ptr i g o => simp only [vrel] at r; obtain ⟨_, rfl, _⟩ := r; rfl
  | nils => simp only [vrel] at r; subst r; rfl
  | sl i g o l e => simp only [vrel] at r; obtain ⟨_, _, rfl, _⟩ := r; rfl
  | nilm => simp only [vrel] at r; subst r; rfl
  | map i => simp only [vrel] at r; obtain ⟨_, rfl, _⟩ := r; rfl
  | fn f x y => simp only [vrel] at r; obtain ⟨_, _, rfl, _⟩ := r; rfl
  | nilf => simp only [vrel] at r; subst r; rfl
  | iface t x => simp only [vrel] at r; obtain ⟨_, rfl, _⟩ := r; rfl
  | nili => simp only [vrel] at r; subst r; rfl

theorem oneCells_of {h : AHeap} {β : Pl} : ∀ {as : List AVal} {vs : List Value}, as.all (·.cell) = true → vrels h β as vs → ∀ v ∈ vs, v.oneCell' = true
  | [], vs, _, r => by rw [vrels_nil] at r; subst r; simp
  | a :: as, vs, hc, r => by
    obtain ⟨v, ws, rfl, r1, r2⟩ := vrels_cons.1 r
    simp only [List.all_cons, Bool.and_eq_true] at hc
    intro x hx
    rcases List.mem_cons.1 hx with e | e
    · subst e; exact oneCell_of hc.1 r1
    · exact oneCells_of hc.2 r2 x e

namespace AHeap
def rd (h : AHeap) (id g off n : Nat) : Option (List AVal) :=
  match h.get id with
  | .cells g' _ vs => if g' = g ∧ off + n ≤ vs.length then some ((vs.drop off).take n) else none
  | _ => none
def wr (h : AHeap) (id g off : Nat) (new : List AVal) : Option AHeap :=
  match h.get id with
  | .cells g' false vs => if g' = g ∧ off + new.length ≤ vs.length ∧ new.all (·.cell) = true then some (h.set id (.cells g false (vs.take off ++ new ++ vs.drop (off + new.length)))) else none
  | _ => none
end AHeap

theorem gen_cells {h : AHeap} {id g : Nat} {ro : Bool} {vs : List AVal} (e : h.get id = .cells g ro vs) : h.gen id = g := by unfold AHeap.gen; rw [e]

theorem read_at {h : AHeap} {β : Pl} {w : World} (R : Rel h β w) {id g off n : Nat} {cs : List AVal} (hid : id < h.n) (e : h.rd id g off n = some cs) :
    g = h.gen id ∧ ∃ vs : List Value, vrels h β cs vs ∧ vs.length = n ∧ cs.length = n ∧ ∀ j v, vs[j]? = some v → w.cell? ((⟨(β id).b, (β id).o + off, none⟩ : Addr).add j) = some v := by
  unfold AHeap.rd at e
  have ho := R.obj id hid
  split at e
  · rename_i g' ro vs hg
    split at e
    · rename_i hc
      obtain ⟨hgg, hlen⟩ := hc
      simp only [Option.some.injEq] at e
      subst e
      rw [hg] at ho
      obtain ⟨c, ty, fz, hb, _, hcap, hvl, hr⟩ := ho
      refine ⟨by rw [gen_cells hg, hgg], ((((c.toList.drop (β id).o).take vs.length).drop off).take n), vrels_take n (vrels_drop off hr), ?_, ?_, ?_⟩
      · simp; omega
      · simp; omega
      · intro j v hj
        rw [addr_add]
        rw [List.getElem?_take] at hj
        split at hj
        · rw [List.getElem?_drop, List.getElem?_take] at hj
          split at hj
          · rw [List.getElem?_drop] at hj
            simp only [World.cell?, hb]
            rw [Array.getElem?_toList] at hj
            simp only [Option.isSome_none, Bool.false_eq_true, if_false]
            rw [← hj]; congr 1; omega
          · simp at hj
        · simp at hj
    · simp at e
  · simp at e

/-! What is frozen stays so, and nothing else is. -/
theorem frozen_eq {w w' : World} {a : Addr} (h : w'.heap[a.block]? = w.heap[a.block]?) : w'.frozen? a = w.frozen? a := by
  unfold World.frozen?; rw [h]
theorem frozen_cells {w : World} {a : Addr} {c : Array Value} {t : TypeId} (h : w.heap[a.block]? = some (.cells c t (0, 0))) : w.frozen? a = false := by
  unfold World.frozen?; rw [h]; simp
theorem frozen_map {w : World} {a : Addr} {es : Array MapEntry} {k : Nat} (h : w.heap[a.block]? = some (.map es k)) : w.frozen? a = false := by
  unfold World.frozen?; rw [h]
theorem frozen_none {w : World} {a : Addr} (h : w.heap[a.block]? = none) : w.frozen? a = false := by
  unfold World.frozen?; rw [h]
theorem frozen_alloc_cells (w : World) (c : Array Value) (t : TypeId) (a : Addr) : (w.alloc (.cells c t)).frozen? a = w.frozen? a := by
  by_cases h : a.block = w.heap.size
  · rw [frozen_cells (c := c) (t := t) (by show (w.heap.push _)[a.block]? = _; rw [h]; simp), frozen_none (by rw [h]; simp)]
  · exact frozen_eq (by show (w.heap.push _)[a.block]? = _; rw [Array.getElem?_push, if_neg h])
theorem frozen_alloc_map (w : World) (es : Array MapEntry) (k : Nat) (a : Addr) : (w.alloc (.map es k)).frozen? a = w.frozen? a := by
  by_cases h : a.block = w.heap.size
  · rw [frozen_map (es := es) (k := k) (by show (w.heap.push _)[a.block]? = _; rw [h]; simp), frozen_none (by rw [h]; simp)]
  · exact frozen_eq (by show (w.heap.push _)[a.block]? = _; rw [Array.getElem?_push, if_neg h])
theorem frozen_setRow (w : World) (g : Nat) (c : Array Value) (a : Addr) : (w.setRow g c).frozen? a = w.frozen? a := by
  by_cases h : a.block = g
  · unfold World.frozen?
    simp only [World.setRow, Array.getElem?_modify, h, if_true]
    cases hh : w.heap[g]? with
    | none => rfl
    | some o => cases o <;> rfl
  · exact frozen_eq (by simp [World.setRow, Array.getElem?_modify, Ne.symm h])
theorem frozen_setMap (w : World) {b : Nat} {es es' : Array MapEntry} {k k' : Nat} (h : w.heap[b]? = some (.map es k)) (a : Addr) : ({ w with heap := w.heap.setIfInBounds b (.map es' k') } : World).frozen? a = w.frozen? a := by
  by_cases e : a.block = b
  · rw [frozen_map (w := w) (a := a) (by rw [e]; exact h), frozen_map (es := es') (k := k') (by
      show (w.heap.setIfInBounds b _)[a.block]? = _
      rw [e, Array.getElem?_setIfInBounds, if_pos rfl, if_pos (Array.getElem?_eq_some_iff.1 h).1])]
  · exact frozen_eq (by show (w.heap.setIfInBounds b _)[a.block]? = _; rw [Array.getElem?_setIfInBounds, if_neg (Ne.symm e)])

theorem setRow_get (w : World) (g : Nat) (c : Array Value) (b : Nat) (e : b ≠ g) : (w.setRow g c).heap[b]? = w.heap[b]? := by
  simp [World.setRow, Array.getElem?_modify, Ne.symm e]
theorem setRow_size (w : World) (g : Nat) (c : Array Value) : (w.setRow g c).heap.size = w.heap.size := by simp [World.setRow]

theorem write_at {P : Program} {h : AHeap} {β : Pl} {w : World} (R : Rel h β w) {id g off : Nat} {new : List AVal} {xs : List Value} {h' : AHeap} (hid : id < h.n) (e : h.wr id g off new = some h') (hx : vrels h β new xs) :
    g = h.gen id ∧ ∃ w', (storeCells ⟨(β id).b, (β id).o + off, none⟩ xs).run P w = .ok () w' ∧ Rel h' β w' ∧ Ext h β w h' β w' := by
  unfold AHeap.wr at e
  have ho := R.obj id hid
  split at e
  · rename_i g' vs hg
    split at e
    · rename_i hc
      obtain ⟨hgg, hlen, hcell⟩ := hc
      simp only [Option.some.injEq] at e
      subst e
      subst hgg
      rw [hg] at ho
      obtain ⟨c, ty, fz, hb, hfz, hcap, hvl, hr⟩ := ho
      obtain rfl := hfz rfl
      have hxl := vrels_length hx
      have hst := run_storeCells_at (P := P) (β id).b ((β id).o + off) ty xs 0 c w hb (by omega) (oneCells_of hcell hx)
      refine ⟨(gen_cells hg).symm, _, hst, ?_⟩
      have hu := Rel.upd (w' := w.setRow (β id).b (c.toList.take ((β id).o + off + 0) ++ xs ++ c.toList.drop ((β id).o + off + 0 + xs.length)).toArray) R hid (by rw [hg]; rfl)
        (o := .cells g' false (vs.take off ++ new ++ vs.drop (off + new.length))) (l := β id) (.inl rfl)
        (by rw [gen_cells hg, gen_cells (AHeap.get_set_same h id _)]; exact ⟨Nat.le_refl _, fun _ => rfl⟩)
        (by rw [setRow_size]; exact Nat.le_refl _) (fun b _ hne => setRow_get w _ _ b hne) rfl rfl (frozen_setRow w _ _)
        (fun hxt => by
          refine ⟨_, ty, (0, 0), setRow_heap w _ c _ ty (0, 0) hb, fun _ => rfl, ?_, ?_, ?_⟩
          · simp; omega
          · simp; omega
          · refine vrels.mono hxt ?_
            have e1 : (vs.take off ++ new ++ vs.drop (off + new.length)).length = vs.length := by simp; omega
            rw [e1]
            have e2 : (((c.toList.take ((β id).o + off + 0) ++ xs ++ c.toList.drop ((β id).o + off + 0 + xs.length)).toArray.toList.drop (β id).o).take vs.length)
                = (((c.toList.drop (β id).o).take vs.length).take off) ++ xs ++ (((c.toList.drop (β id).o).take vs.length).drop (off + new.length)) := by
              apply List.ext_getElem?
              intro j
              have hcl : c.toList.length = c.size := by simp
              simp only [Nat.add_zero, List.getElem?_take, List.getElem?_drop, List.getElem?_append, List.length_take, List.length_append, List.length_drop]
              split
              · rename_i hj
                by_cases hj1 : j < off
                · rw [if_pos (by omega), if_pos (by omega), if_pos (by omega), if_pos (by omega), if_pos (by omega), if_pos (by omega)]
                · by_cases hj2 : j < off + xs.length
                  · rw [if_pos (by omega), if_neg (by omega), if_pos (by omega), if_neg (by omega)]; congr 1; omega
                  · rw [if_neg (by omega), if_neg (by omega), if_pos (by omega)]; congr 1; omega
              · rename_i hj
                rw [if_neg (by omega), if_neg (by omega)]
            rw [e2]
            exact vrels_append (vrels_append (vrels_take off hr) hx) (vrels_drop _ hr))
      rwa [updP_self] at hu
    · simp at e
  · simp at e

/-- A new row. -/
theorem new_row {h : AHeap} {β : Pl} {w : World} (R : Rel h β w) (ty : TypeId) {vs : List AVal} {c : Array Value} (n : Nat) (hn : vs.length ≤ n) (hc : n ≤ c.size) (hr : vrels h β vs (c.toList.take vs.length)) :
    Rel (h.push (.cells 0 false vs)) (updP β h.n ⟨w.heap.size, 0, n⟩) (w.alloc (.cells c ty)) ∧ Ext h β w (h.push (.cells 0 false vs)) (updP β h.n ⟨w.heap.size, 0, n⟩) (w.alloc (.cells c ty)) :=
  Rel.new R (fun _ => Nat.le_refl _) (by simp) (fun b hb => by simp only [World.alloc, Array.getElem?_push]; rw [if_neg (by omega)]) rfl rfl (frozen_alloc_cells w _ _)
    (fun hx => ⟨c, ty, (0, 0), by show (w.heap.push _)[w.heap.size]? = _; simp, fun _ => rfl, by simpa using hc, hn, vrels.mono hx (by simpa using hr)⟩)

end Go.AM
