/-
  What the functions of this seat do, on the machine: lemmas for the laws.
-/
import Derived.Test.YtedomhceacongaaAmCh8
namespace Go.Proofs.Ytedomhceacongaa.Ch
open Go Go.AM Go.Proofs.Ytedomhceacongaa.AmGC
attribute [local irreducible] AM.wp AM.wpIs AM.wpTr AM.opI AM.gI AM.cI AM.trI AM.callI AM.fnI AM.trG AM.trOp AM.trCall AM.seqC AM.loopI
set_option maxRecDepth 100000
set_option linter.unusedVariables false
set_option linter.unusedSimpArgs false

/-- What stands in the channel is what was sent and not yet got, in its order. -/
structure OI (n i S G : Nat) (ps : List Int) (ss gs : List (Int × Int)) : Prop where
  seq : ps ++ ss.map (·.2) = (List.range (S - G)).map fun (j : Nat) => ((G + 1 + j : Nat) : Int)
  le : G ≤ S
  si : S ≤ i
  pl : ps.length ≤ n
  full : ss ≠ [] → ps.length = n
  gl : gs.length ≤ i
  gb : ∀ g, g ∈ gs → 0 ≤ g.1 ∧ g.1 < i
  ge : gs ≠ [] → ps = [] ∧ ss = []

theorem OI.len {n i S G : Nat} {ps : List Int} {ss gs : List (Int × Int)} (o : OI n i S G ps ss gs) : ps.length + ss.length = S - G := by
  have := congrArg List.length o.seq
  simpa using this

theorem OI.head {n i S G : Nat} {ps : List Int} {ss gs : List (Int × Int)} (o : OI n i S G ps ss gs) {a : Int} {l : List Int} (e : ps ++ ss.map (·.2) = a :: l) :
    a = ((G + 1 : Nat) : Int) ∧ G + 1 ≤ S ∧ l = (List.range (S - (G + 1))).map fun (j : Nat) => ((G + 1 + 1 + j : Nat) : Int) := by
  have h1 := o.seq
  rw [e] at h1
  have h2 := congrArg List.length h1
  simp only [List.length_cons, List.length_map, List.length_range] at h2
  obtain ⟨m, hm⟩ : ∃ m, S - G = m + 1 := ⟨S - G - 1, by omega⟩
  rw [hm, List.range_succ_eq_map, List.map_cons, List.map_map] at h1
  injection h1 with h3 h4
  refine ⟨h3, by omega, ?_⟩
  rw [h4, show S - (G + 1) = m by omega]
  apply List.map_congr_left
  intro j _
  show ((G + 1 + (j + 1) : Nat) : Int) = _
  congr 1; omega

theorem OI.handed {n i S G : Nat} {ps : List Int} {ss t : List (Int × Int)} {g : Int × Int} (o : OI n i S G ps ss (g :: t)) : S = G ∧ ps = [] ∧ ss = [] ∧ OI n (i + 1) (S + 1) (G + 1) ps ss t := by
  obtain ⟨rfl, rfl⟩ := o.ge (by simp)
  have := o.len
  have e : S = G := by simp at this; have := o.le; omega
  refine ⟨e, rfl, rfl, ⟨?_, by omega, by have := o.si; omega, by simp, by simp, by have := o.gl; simp at this; omega, fun x hx => ?_, fun _ => ⟨rfl, rfl⟩⟩⟩
  · rw [show S + 1 - (G + 1) = 0 by omega]; rfl
  · have := o.gb x (List.mem_cons_of_mem _ hx); omega

theorem OI.snoc {n i S G : Nat} {ps : List Int} {ss : List (Int × Int)} (o : OI n i S G ps ss []) : ps ++ ss.map (·.2) ++ [((S + 1 : Nat) : Int)] = (List.range (S + 1 - G)).map fun (j : Nat) => ((G + 1 + j : Nat) : Int) := by
  have := o.le
  rw [o.seq, show S + 1 - G = (S - G) + 1 by omega, List.range_succ, List.map_append]
  congr 1
  simp; omega

theorem OI.put {n i S G : Nat} {ps : List Int} {ss : List (Int × Int)} (o : OI n i S G ps ss []) (h : ps.length < n) : OI n (i + 1) (S + 1) G (ps ++ [((S + 1 : Nat) : Int)]) ss [] := by
  have hs : ss = [] := by
    by_cases e : ss = []
    · exact e
    · have := o.full e; omega
  subst hs
  have h1 := o.snoc
  refine ⟨by simpa using h1, by have := o.le; omega, by have := o.si; omega, by simp; omega, by simp, by simp, by simp, by simp⟩

theorem OI.wait {n i S G : Nat} {ps : List Int} {ss : List (Int × Int)} (o : OI n i S G ps ss []) (h : ¬ ps.length < n) : OI n (i + 1) (S + 1) G ps (ss ++ [((i : Int), ((S + 1 : Nat) : Int))]) [] := by
  have h1 := o.snoc
  refine ⟨by simpa using h1, by have := o.le; omega, by have := o.si; omega, o.pl, fun _ => by have := o.pl; omega, by simp, by simp, by simp⟩

theorem OI.recv {n i S G : Nat} {ps : List Int} {ss gs : List (Int × Int)} (o : OI n i S G ps ss gs) : ∀ (r : Int × Int × Int) (s' : CS), CS.recv ⟨ps, n, false, ss, gs⟩ i true = (r, s') →
    (r.1 = 3 ∧ OI n (i + 1) S G s'.ps s'.ss s'.gs ∧ s'.gs.length = gs.length + 1 ∧ s'.cap = n ∧ s'.cl = false) ∨
    (r.1 ≠ 3 ∧ r.2.2 = ((G + 1 : Nat) : Int) ∧ OI n (i + 1) S (G + 1) s'.ps s'.ss s'.gs ∧ s'.gs = gs ∧ s'.cap = n ∧ s'.cl = false) := by
  intro r s' hr
  have hi := o.si
  have hgb : ∀ g, g ∈ gs → 0 ≤ g.1 ∧ g.1 < ((i + 1 : Nat) : Int) := fun g hg => by have := o.gb g hg; omega
  cases ps with
  | cons p t =>
    have hgs : gs = [] := by
      by_cases e : gs = []
      · exact e
      · have := (o.ge e).1; cases this
    subst hgs
    cases ss with
    | nil =>
      obtain ⟨h1, h2, h3⟩ := o.head (a := p) (l := t) (by simp)
      simp only [CS.recv] at hr
      cases hr
      exact .inr ⟨by simp, h1, ⟨by simpa using h3, h2, by omega, by have := o.pl; simp at this ⊢; omega, by simp, by simp, by simp, by simp⟩, rfl, rfl, rfl⟩
    | cons x u =>
      obtain ⟨h1, h2, h3⟩ := o.head (a := p) (l := t ++ x.2 :: u.map (·.2)) (by simp)
      simp only [CS.recv] at hr
      cases hr
      have hf := o.full (by simp)
      exact .inr ⟨by simp, h1, ⟨by simpa using h3, h2, by omega, by simp at hf ⊢; omega, fun _ => by simp at hf ⊢; omega, by simp, by simp, by simp⟩, rfl, rfl, rfl⟩
  | nil =>
    cases ss with
    | nil =>
      simp only [CS.recv, Bool.false_eq_true, if_false, if_true] at hr
      cases hr
      refine .inl ⟨rfl, ⟨o.seq, o.le, by omega, o.pl, o.full, by have := o.gl; simp; omega, fun g hg => ?_, fun _ => ⟨rfl, rfl⟩⟩, by simp, rfl, rfl⟩
      rcases List.mem_append.1 hg with e | e
      · exact hgb g e
      · simp at e; subst e; simp; omega
    | cons x u =>
      have hgs : gs = [] := by
        by_cases e : gs = []
        · exact e
        · have := (o.ge e).2; cases this
      subst hgs
      obtain ⟨h1, h2, h3⟩ := o.head (a := x.2) (l := u.map (·.2)) (by simp)
      have hf := o.full (by simp)
      simp only [CS.recv] at hr
      cases hr
      exact .inr ⟨by simp, h1, ⟨by simpa using h3, h2, by omega, o.pl, fun _ => by simp at hf ⊢; exact hf, by simp, by simp, by simp⟩, rfl, rfl, rfl⟩
end Go.Proofs.Ytedomhceacongaa.Ch
