/-
  AM, part 23a: a region whose order is open, with its instructions written in another order: the same orders of evaluation.
-/
import Derived.Test.YtedomhceacongaaAmDraw6
namespace Go.AM
set_option linter.unusedVariables false
set_option linter.unusedSimpArgs false

theorem perm_get {σ : List Nat} {ops : Array Oper} (k : Nat) : (permOps σ ops)[k]? = (σ[k]?).map fun i => remap σ ((ops[i]?).getD default) := by
  simp [permOps]

theorem permOk_of {σ : List Nat} {n : Nat} (h : permOk σ n = true) : σ.length = n ∧ σ.Nodup ∧ (∀ i ∈ σ, i < n) ∧ ∀ i, i < n → i ∈ σ := by
  simp only [permOk, Bool.and_eq_true, decide_eq_true_eq, List.all_eq_true, List.mem_range, List.contains_iff_mem] at h
  obtain ⟨⟨⟨h1, h2⟩, h3⟩, h4⟩ := h
  exact ⟨h1, h2, h3, h4⟩

section
variable {P : Program} {ρ : Option Nat} {ops : Array Oper} {σ : List Nat} {Q : Exit → Act → World → Prop} (hσ : permOk σ ops.size = true)
include hσ

theorem perm_size : (permOps σ ops).size = ops.size := by
  obtain ⟨h1, _⟩ := permOk_of hσ
  simp [permOps, h1]

theorem perm_idx {k i : Nat} (hk : σ[k]? = some i) : σ.idxOf i = k := by
  obtain ⟨h1, h2, _⟩ := permOk_of hσ
  have hkl : k < σ.length := (List.getElem?_eq_some_iff.1 hk).1
  have hi := (List.getElem?_eq_some_iff.1 hk).2
  rw [← hi]
  exact h2.idxOf_getElem k hkl

theorem perm_yield (tmps : Array Value) (j : Nat) : yielded (permOps σ ops) tmps (σ.idxOf j) = yielded ops tmps j := by
  obtain ⟨h1, h2, h3, h4⟩ := permOk_of hσ
  unfold yielded
  by_cases hj : j < ops.size
  · have hm := h4 j hj
    have hk : σ[σ.idxOf j]? = some j := by
      have hl := List.idxOf_lt_length_of_mem hm
      rw [List.getElem?_eq_getElem hl, List.getElem_idxOf]
    rw [perm_get, hk, Option.map_some, Array.getElem?_eq_getElem hj]
    rfl
  · have hn : j ∉ σ := fun h => hj (h3 j h)
    have : σ.idxOf j = σ.length := List.idxOf_eq_length hn
    rw [this, perm_get, List.getElem?_eq_none (Nat.le_refl _), Array.getElem?_eq_none (by omega)]
    rfl

theorem perm_wanted (o : Oper) (tmps : Array Value) : Region.wanted (remap σ o) (yielded (permOps σ ops) tmps) = Region.wanted o (yielded ops tmps) := by
  unfold Region.wanted remap
  cases hg : o.guard with
  | none => simp
  | some jb =>
    obtain ⟨j, b⟩ := jb
    simp only [Option.map_some]
    rw [perm_yield hσ]

theorem perm_op {k i : Nat} (hk : σ[k]? = some i) {K : Act → World → Prop} {a : Act} {w : World} (h : wpOpIn (fen ρ) 0 P (permOps σ ops) Q k K a w) : wpOpIn (fen ρ) 0 P ops Q i K a w := by
  obtain ⟨h1, h2, h3, h4⟩ := permOk_of hσ
  have hi : i < ops.size := h3 i (List.mem_of_getElem? hk)
  unfold wpOpIn at h ⊢
  rw [perm_get, hk, Option.map_some, Array.getElem?_eq_getElem hi] at h
  rw [Array.getElem?_eq_getElem hi]
  simp only [Option.getD_some] at h ⊢
  rw [perm_wanted hσ] at h
  exact h

/-- What is listed, in the one order and in the other. -/
def LR (σ : List Nat) (n : Nat) (listed listed' : Array Bool) : Prop := listed.size = n ∧ listed'.size = n ∧ ∀ k i, σ[k]? = some i → listed'.getD k false = listed.getD i false

theorem perm_ready {listed listed' : Array Bool} (h : LR σ ops.size listed listed') {k i : Nat} (hk : σ[k]? = some i) : i ∈ Region.ready .any ops listed ↔ k ∈ Region.ready .any (permOps σ ops) listed' := by
  obtain ⟨h1, h2, h3, h4⟩ := permOk_of hσ
  obtain ⟨l1, l2, l3⟩ := h
  have hi : i < ops.size := h3 i (List.mem_of_getElem? hk)
  have hkl : k < ops.size := by rw [← h1]; exact (List.getElem?_eq_some_iff.1 hk).1
  have hedge : ∀ j, listed'.getD (σ.idxOf j) false = listed.getD j false := by
    intro j
    by_cases hj : j < ops.size
    · have hm := h4 j hj
      refine l3 _ _ ?_
      have hl := List.idxOf_lt_length_of_mem hm
      rw [List.getElem?_eq_getElem hl, List.getElem_idxOf]
    · have hn : j ∉ σ := fun h => hj (h3 j h)
      have : σ.idxOf j = σ.length := List.idxOf_eq_length hn
      rw [this]
      simp only [Array.getD_eq_getD_getElem?]
      rw [Array.getElem?_eq_none (by omega), Array.getElem?_eq_none (by omega)]
  have hself : listed'.getD k true = listed.getD i true := by
    have := l3 k i hk
    simp only [Array.getD_eq_getD_getElem?, Array.getElem?_eq_getElem (show k < listed'.size by omega), Array.getElem?_eq_getElem (show i < listed.size by omega), Option.getD_some] at this ⊢
    exact this
  simp only [Region.ready, List.mem_filter, List.mem_range, perm_size hσ, hi, hkl, true_and, hself, perm_get, hk, Option.map_some, Array.getElem?_eq_getElem hi, Option.getD_some, Bool.and_eq_true]
  refine and_congr_right fun _ => ?_
  simp only [remap, Array.all_eq_true', Array.mem_map]
  constructor
  · rintro h e ⟨e', he', rfl⟩
    have := h e' he'
    simp only [hedge]
    exact this
  · intro h e he
    have := h { e with on := σ.idxOf e.on } ⟨e, he, rfl⟩
    simp only [hedge] at this
    exact this

theorem LR.set {listed listed' : Array Bool} (h : LR σ ops.size listed listed') {k i : Nat} (hk : σ[k]? = some i) : LR σ ops.size (listed.setIfInBounds i true) (listed'.setIfInBounds k true) := by
  obtain ⟨h1, h2, h3, h4⟩ := permOk_of hσ
  obtain ⟨l1, l2, l3⟩ := h
  refine ⟨by simp [l1], by simp [l2], fun k' i' hk' => ?_⟩
  have hkl : k < ops.size := by rw [← h1]; exact (List.getElem?_eq_some_iff.1 hk).1
  have hi : i < ops.size := h3 i (List.mem_of_getElem? hk)
  have hiff : k = k' ↔ i = i' := by
    constructor
    · rintro rfl; rw [hk] at hk'; exact Option.some.inj hk'
    · rintro rfl; rw [← perm_idx hσ hk, ← perm_idx hσ hk']
  have := l3 k' i' hk'
  simp only [Array.getD_eq_getD_getElem?, Array.getElem?_setIfInBounds] at this ⊢
  by_cases e : k = k'
  · rw [if_pos e, if_pos (hiff.1 e), if_pos (by omega), if_pos (by omega)]
  · rw [if_neg e, if_neg (fun h => e (hiff.2 h))]; exact this

theorem perm_any : ∀ (fuel : Nat) (listed listed' : Array Bool) (a : Act) (w : World), LR σ ops.size listed listed' → wpAnyIn (fen ρ) 0 P .any (permOps σ ops) Q fuel listed' a w → wpAnyIn (fen ρ) 0 P .any ops Q fuel listed a w := by
  obtain ⟨h1, h2, h3, h4⟩ := permOk_of hσ
  have nil : ∀ (listed listed' : Array Bool), LR σ ops.size listed listed' → (Region.ready .any ops listed = [] ↔ Region.ready .any (permOps σ ops) listed' = []) := by
    intro listed listed' h
    simp only [List.eq_nil_iff_forall_not_mem]
    constructor
    · intro hn k hk
      have hkl : k < σ.length := by
        have : k < (permOps σ ops).size := by
          simp only [Region.ready, List.mem_filter, List.mem_range] at hk
          exact hk.1
        rw [perm_size hσ] at this; omega
      exact hn σ[k] ((perm_ready hσ h (List.getElem?_eq_getElem hkl)).2 hk)
    · intro hn i hi
      have hil : i < ops.size := by
        simp only [Region.ready, List.mem_filter, List.mem_range] at hi
        exact hi.1
      have hm := h4 i hil
      have hl := List.idxOf_lt_length_of_mem hm
      have hk : σ[σ.idxOf i]? = some i := by rw [List.getElem?_eq_getElem hl, List.getElem_idxOf]
      exact hn _ ((perm_ready hσ h hk).1 hi)
  intro fuel
  induction fuel with
  | zero => intro listed listed' a w h hw; exact ⟨(nil _ _ h).2 hw.1, hw.2⟩
  | succ fuel ih =>
    intro listed listed' a w h hw
    refine ⟨fun hr => hw.1 ((nil _ _ h).1 hr), fun i hi => ?_⟩
    have hil : i < ops.size := by
      simp only [Region.ready, List.mem_filter, List.mem_range] at hi
      exact hi.1
    have hm := h4 i hil
    have hl := List.idxOf_lt_length_of_mem hm
    have hk : σ[σ.idxOf i]? = some i := by rw [List.getElem?_eq_getElem hl, List.getElem_idxOf]
    have := hw.2 _ ((perm_ready hσ h hk).1 hi)
    exact wpOpIn_mono (fun a w hh => ih _ _ a w (h.set hσ hk) hh) (perm_op hσ hk this)

end
end Go.AM
