/-
  AM, part 24: what the machine answers, the model answers: calls without arguments.
-/
import Derived.Test.YtedomhceacongaaAmRun
import Derived.RowKit3
namespace Go.AM
open Go.RowKit
set_option linter.unusedVariables false

/-- A heap of which nothing is known but that the package-level variables are there. -/
def heap0 (G : Nat) : AHeap := ⟨G, G, .nil⟩
def pl0 : Pl := fun i => ⟨i, 0, 0⟩

theorem rel0 (G : Nat) (w : World) : Rel (heap0 G) pl0 w where
  obj := fun id _ => by show orel _ _ _ _ .hole; trivial
  inj := fun i j _ _ _ ho => by cases ho
  top := fun _ _ => rfl
  glob := fun i hi => ⟨hi, rfl, rfl, rfl, rfl⟩

theorem Ext.grown {h : AHeap} {β : Pl} {w : World} {h' : AHeap} {β' : Pl} {w' : World} (X : Ext h β w h' β' w') (hno : ∀ id, id < h.n → (h.get id).own = false) : Grown w w' := by
  have hk : ∀ b, b < w.heap.size → w'.heap[b]? = w.heap[b]? := fun b hb => X.keep b hb fun id hid ho => by rw [hno id hid] at ho; cases ho
  refine ⟨⟨X.os, X.out, fun i hi => ?_⟩, X.fz, X.size⟩
  rw [hk i hi]
  cases w.heap[i]? with
  | none => trivial
  | some o => cases o <;> simp

def ofList : List (Nat × AFun) → AProg
  | [] => .nil
  | (i, f) :: l => Tr.set (ofList l) i f
theorem ofList_mem : ∀ {l : List (Nat × AFun)} {i : Nat} {f : AFun}, Tr.get (ofList l) i = some f → (i, f) ∈ l
  | [], i, f, h => by simp [ofList, Tr.get] at h
  | (j, g) :: l, i, f, h => by
    simp only [ofList, Tr.get_set] at h
    split at h
    · rename_i e; subst e; cases h; exact List.mem_cons_self
    · exact List.mem_cons_of_mem _ (ofList_mem h)
theorem ofList_ok {P : Program} {l : List (Nat × AFun)} (h : ∀ p ∈ l, ∃ fn, P.funcs[p.1]? = some fn ∧ (fn.name == "runtime.NumGoroutine") = false ∧ cFun P fn = some p.2) :
    ∀ f afn, Tr.get (ofList l) f = some afn → ∃ fn, P.funcs[f]? = some fn ∧ (fn.name == "runtime.NumGoroutine") = false ∧ cFun P fn = some afn :=
  fun f afn hg => h (f, afn) (ofList_mem hg)

/-- A closed call that answers true. -/
theorem closed_true {P : Program} {AP : AProg} (ok : ProgOk P AP) (n : Nat) {f : FuncId} {h' : AHeap} (he : (run AP n).call f [] (heap0 P.globals.size) = some (.ret (.bool true), h')) (w : World) :
    Calls P f #[] w fun e w' => e = .returned (.bool true) ∧ Grown w w' := by
  refine (((sound ok n).1 f [] _ _ _ he).2 pl0 w #[] (rel0 _ w) rfl (by simp [vrels])).mono ?_
  rintro e w' ⟨β', R, X, x, rfl, hx⟩
  simp only [vrel] at hx
  subst hx
  exact ⟨rfl, X.grown fun id _ => rfl⟩

def isTrue : Option (ARes × AHeap) → Bool
  | some (.ret (.bool true), _) => true
  | _ => false
theorem isTrue_some {o : Option (ARes × AHeap)} (h : isTrue o = true) : ∃ h', o = some (.ret (.bool true), h') := by
  unfold isTrue at h
  split at h
  · exact ⟨_, rfl⟩
  · cases h

/-- A call that answers true, whatever the arguments are that the machine's stand for. -/
theorem call_true {P : Program} {AP : AProg} (ok : ProgOk P AP) (n g : Nat) {f : FuncId} (hg : P.globals.size = g) (args : List AVal) (vs : Array Value) (hv : ∀ h β, vrels h β args vs.toList) (he : isTrue ((run AP n).call f args (heap0 g)) = true) (w : World) :
    Calls P f vs w fun e w' => e = .returned (.bool true) ∧ Grown w w' := by
  obtain ⟨h', he⟩ := isTrue_some he
  refine (((sound ok n).1 f args _ _ _ he).2 pl0 w vs (rel0 _ w) hg.symm (hv _ _)).mono ?_
  rintro e w' ⟨β', R, X, x, rfl, hx⟩
  simp only [vrel] at hx
  subst hx
  exact ⟨rfl, X.grown fun id _ => rfl⟩

theorem closed_true' {P : Program} {AP : AProg} (ok : ProgOk P AP) (n g : Nat) {f : FuncId} (hg : P.globals.size = g) (he : isTrue ((run AP n).call f [] (heap0 g)) = true) (w : World) :
    Calls P f #[] w fun e w' => e = .returned (.bool true) ∧ Grown w w' := by
  obtain ⟨h', he⟩ := isTrue_some he
  exact closed_true ok n (by rw [hg]; exact he) w

end Go.AM
