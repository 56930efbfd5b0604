/-
  What the functions of this seat do, on the machine: lemmas for the laws.
-/
import Derived.Test.YthillgheddpmhaaDoorAmLK
import Derived.Test.YthillgheddpmhaaDoorAmLD0
namespace Go.Proofs.YthillgheddpmhaaDoor.Pg
open Go Go.AM Go.Proofs.YthillgheddpmhaaDoor.AmGL
attribute [local irreducible] AM.wp AM.wpIs AM.wpTr AM.opI AM.gI AM.cI AM.trI AM.callI AM.fnI AM.yldI AM.rangeI AM.rangeC AM.YldP AM.asgQ AM.roundQ AM.rangeQ AM.trG AM.trOp AM.trCall AM.seqC AM.loopI
set_option maxRecDepth 100000
set_option linter.unusedVariables false
set_option linter.unusedSimpArgs false

/-- How long the row is that begins here. -/
def cntF (f : Nat → Bool) : Nat → Nat → Nat
  | 0, _ => 0
  | k + 1, p => if f p = true then cntF f k (p + 1) + 1 else 0
theorem cntF_eq {f : Nat → Bool} : ∀ (k p c : Nat), Row f p c → f (p + c) = false → c ≤ k → cntF f k p = c
  | 0, p, c, _, _, h => by obtain rfl : c = 0 := by omega
                           rfl
  | k + 1, p, 0, _, h2, _ => by rw [cntF, if_neg]; rw [Nat.add_zero] at h2; rw [h2]; simp
  | k + 1, p, c + 1, h1, h2, h3 => by
    rw [cntF, if_pos (by have := h1 0 (by omega); rwa [Nat.add_zero] at this), cntF_eq k (p + 1) c (fun t ht => by have := h1 (1 + t) (by omega); rwa [← Nat.add_assoc] at this) (by rwa [show p + 1 + c = p + (c + 1) by omega]) (by omega)]
/-- The rows of free places. -/
def rowsF (f : Nat → Bool) (n : Nat) : Nat → Nat → List (Nat × Nat)
  | 0, _ => []
  | k + 1, p => if p < n then (if 0 < cntF f (n - p) p then [(p, cntF f (n - p) p)] else []) ++ rowsF f n k (p + cntF f (n - p) p + 1) else []

set_option maxHeartbeats 4000000 in
/-- The rows are given one by one. -/
theorem genW {h : AHeap} {p : PI} {n : Nat} {ws : List Nat} {id c : Nat} (hn4 : n ≤ 4096) (I : List (Nat × Nat) → AHeap → Prop) (J : AHeap → Prop) (hK : ∀ l h, I l h → (∃ lv, PgV h p n ws lv) ∧ h.get c = .cells 0 false [.ptr p.id 0 0] ∧ c < h.n)
    (hy : ∀ (l : List (Nat × Nat)) (h : AHeap) (a k : Nat) (t : List (Nat × Nat)), I l h → rowsF (fw ws) n n 0 = l ++ (a, k) :: t → YldP AP id [.int .i64 (a : Int), .int .i64 (k : Int)] h fun r h' => (r = .bool true ∧ I (l ++ [(a, k)]) h') ∨ (r = .bool false ∧ J h')) (h0 : I [] h) :
    CallP AP 84 [.yld id, .ptr c 0 0] h fun r h' => I (rowsF (fw ws) n n 0) h' ∨ J h' := by
  refine callP (rfl : Tr.get AP 84 = some A84) ?_
  generalize hQ : (fun (r : AVal) (h' : AHeap) => _) = Q
  obtain ⟨⟨lv, K⟩, gc, nc⟩ := hK _ _ h0
  simp -implicitDefEqProofs (disch := first | decide | assumption | omega | (simp -implicitDefEqProofs only [AM.RN]; first | done | omega) | fail) only [↓AM.R0, AM.R1, AM.R2, Nat.reduceAdd, Nat.reduceLeDiff, Nat.reduceEqDiff, Int.reduceToNat, Nat.reduceLT, ↓reduceIte, Int.reduceEq, Int.reduceLT, Int.reduceLE, gc]
  refine AM.loopI_of (fun k e h' => ∃ (a : Nat) (l : List (Nat × Nat)), n ≤ a + k ∧ a ≤ n + 1 ∧ e.val 0 = .yld id ∧ e.val 1 = .ptr c 0 0 ∧ e.val 3 = .int .i64 (a : Int) ∧ I l h' ∧ rowsF (fw ws) n n 0 = l ++ rowsF (fw ws) n k a) n ?_ ?_
  · refine ⟨0, [], by omega, by omega, ?_, ?_, ?_, h0, rfl⟩ <;> simp -implicitDefEqProofs (disch := first | decide | assumption | omega | (simp -implicitDefEqProofs only [AM.RN]; first | done | omega) | fail) only [↓AM.R0, AM.R1, AM.R2, Nat.reduceAdd, Nat.reduceLeDiff, Nat.reduceEqDiff, Int.reduceToNat, Nat.reduceLT, ↓reduceIte, Int.reduceEq, Int.reduceLT, Int.reduceLE] <;> rfl
  · clear K gc nc lv h0
    rintro k e h' ⟨a, l, hk, hka, e0, e1, e3, hI, hR⟩
    obtain ⟨⟨lv, K⟩, gc, nc⟩ := hK _ _ hI
    have g1 := K.R.obj
    obtain ⟨b1, b2, b3, b4, b5, b6⟩ := K.R.basic
    simp -implicitDefEqProofs (disch := first | decide | assumption | omega | (simp -implicitDefEqProofs only [AM.RN]; first | done | omega) | fail) only [↓AM.R0, AM.R1, AM.R2, Nat.reduceAdd, Nat.reduceLeDiff, Nat.reduceEqDiff, Int.reduceToNat, Nat.reduceLT, ↓reduceIte, Int.reduceEq, Int.reduceLT, Int.reduceLE, e1, e3, gc, g1]
    refine AM.cI_bool (fun hb => ?_) (fun hb => ?_)
    · simp only [decide_eq_true_eq] at hb
      obtain ⟨k, rfl⟩ : ∃ j, k = j + 1 := ⟨k - 1, by omega⟩
      simp -implicitDefEqProofs (disch := first | decide | assumption | omega | (simp -implicitDefEqProofs only [AM.RN]; first | done | omega) | fail) only [↓AM.R0, AM.R1, AM.R2, Nat.reduceAdd, Nat.reduceLeDiff, Nat.reduceEqDiff, Int.reduceToNat, Nat.reduceLT, ↓reduceIte, Int.reduceEq, Int.reduceLT, Int.reduceLE]
      refine AM.loopI_of (fun k e h'' => ∃ (m : Nat), k + m + a = n + 1 ∧ h'' = h' ∧ e.val 0 = .yld id ∧ e.val 1 = .ptr c 0 0 ∧ e.val 3 = .int .i64 (a : Int) ∧ e.val 4 = .int .i64 (m : Int) ∧ Row (fw ws) a m) (n + 1 - a) ?_ ?_
      · refine ⟨0, by omega, rfl, ?_, ?_, ?_, ?_, fun t ht => by omega⟩ <;> simp -implicitDefEqProofs (disch := first | decide | assumption | omega | (simp -implicitDefEqProofs only [AM.RN]; first | done | omega) | fail) only [↓AM.R0, AM.R1, AM.R2, Nat.reduceAdd, Nat.reduceLeDiff, Nat.reduceEqDiff, Int.reduceToNat, Nat.reduceLT, ↓reduceIte, Int.reduceEq, Int.reduceLT, Int.reduceLE, e0, e1, e3] <;> rfl
      · clear e0 e1 e3
        rintro k2 e h'' ⟨m, hm, hh, e0, e1, e3, e4, hrow⟩
        rw [hh]
        have hmn : a + m ≤ n := by
          rcases Nat.lt_or_ge n (a + m) with q | q
          · have := hrow (m - 1) (by omega)
            rw [K.out _ (by omega)] at this; cases this
          · exact q
        have w1 : IntKind.i64.wrap ((a : Int) + (m : Int)) = ((a + m : Nat) : Int) := (wrap64 (by omega) (by omega)).trans (by omega)
        have w2 : IntKind.i64.wrap ((m : Int) + 1) = ((m + 1 : Nat) : Int) := (wrap64 (by omega) (by omega)).trans (by omega)
        simp -implicitDefEqProofs (disch := first | decide | assumption | omega | (simp -implicitDefEqProofs only [AM.RN]; first | done | omega) | fail) only [↓AM.R0, AM.R1, AM.R2, Nat.reduceAdd, Nat.reduceLeDiff, Nat.reduceEqDiff, Int.reduceToNat, Nat.reduceLT, ↓reduceIte, Int.reduceEq, Int.reduceLT, Int.reduceLE, e1, e3, e4, gc, w1]
        refine AM.callI_of (usedW K ((a + m : Nat) : Int)) ?_
        rintro r h6 ⟨rfl, rfl⟩
        rw [fi_nat]
        simp -implicitDefEqProofs (disch := first | decide | assumption | omega | (simp -implicitDefEqProofs only [AM.RN]; first | done | omega) | fail) only [↓AM.R0, AM.R1, AM.R2, Nat.reduceAdd, Nat.reduceLeDiff, Nat.reduceEqDiff, Int.reduceToNat, Nat.reduceLT, ↓reduceIte, Int.reduceEq, Int.reduceLT, Int.reduceLE, Bool.not_not]
        refine AM.cI_bool (fun hc => ?_) (fun hc => ?_)
        · have hlt : a + m < n := by
            rcases Nat.lt_or_ge (a + m) n with q | q
            · exact q
            · rw [K.out _ q] at hc; cases hc
          simp -implicitDefEqProofs (disch := first | decide | assumption | omega | (simp -implicitDefEqProofs only [AM.RN]; first | done | omega) | fail) only [↓AM.R0, AM.R1, AM.R2, Nat.reduceAdd, Nat.reduceLeDiff, Nat.reduceEqDiff, Int.reduceToNat, Nat.reduceLT, ↓reduceIte, Int.reduceEq, Int.reduceLT, Int.reduceLE, e4, w2]
          refine ⟨k2 - 1, by omega, m + 1, by omega, e0, e1, e3, rfl, hrow.join (q := a + m) (j := 1) (fun t ht => by rw [show a + m + t = a + m by omega]; exact hc) rfl⟩
        · have hcn : cntF (fw ws) (n - a) a = m := cntF_eq _ _ _ hrow hc (by omega)
          rw [rowsF, if_pos (by omega), hcn] at hR
          simp -implicitDefEqProofs (disch := first | decide | assumption | omega | (simp -implicitDefEqProofs only [AM.RN]; first | done | omega) | fail) only [↓AM.R0, AM.R1, AM.R2, Nat.reduceAdd, Nat.reduceLeDiff, Nat.reduceEqDiff, Int.reduceToNat, Nat.reduceLT, ↓reduceIte, Int.reduceEq, Int.reduceLT, Int.reduceLE, e4]
          refine AM.gI_bool (fun hd => ?_) (fun hd => ?_)
          · have hd' : 0 < m := by simp only [decide_eq_true_eq] at hd; omega
            rw [if_pos hd', List.cons_append, List.nil_append] at hR
            simp -implicitDefEqProofs (disch := first | decide | assumption | omega | (simp -implicitDefEqProofs only [AM.RN]; first | done | omega) | fail) only [↓AM.R0, AM.R1, AM.R2, Nat.reduceAdd, Nat.reduceLeDiff, Nat.reduceEqDiff, Int.reduceToNat, Nat.reduceLT, ↓reduceIte, Int.reduceEq, Int.reduceLT, Int.reduceLE, e0, e3, e4, hd]
            refine AM.yldI_of (hy l h6 a m _ hI hR) ?_
            rintro r h7 (⟨rfl, hI7⟩ | ⟨rfl, hJ⟩)
            · have w3 : IntKind.i64.wrap (((a + m : Nat) : Int) + 1) = ((a + m + 1 : Nat) : Int) := (wrap64 (by omega) (by omega)).trans (by omega)
              simp -implicitDefEqProofs (disch := first | decide | assumption | omega | (simp -implicitDefEqProofs only [AM.RN]; first | done | omega) | fail) only [↓AM.R0, AM.R1, AM.R2, Nat.reduceAdd, Nat.reduceLeDiff, Nat.reduceEqDiff, Int.reduceToNat, Nat.reduceLT, ↓reduceIte, Int.reduceEq, Int.reduceLT, Int.reduceLE, e3, e4, hd, w1, w3]
              exact ⟨k, by omega, a + m + 1, l ++ [(a, m)], by omega, by omega, e0, e1, rfl, hI7, by rw [hR, List.append_assoc]; rfl⟩
            · simp -implicitDefEqProofs (disch := first | decide | assumption | omega | (simp -implicitDefEqProofs only [AM.RN]; first | done | omega) | fail) only [↓AM.R0, AM.R1, AM.R2, Nat.reduceAdd, Nat.reduceLeDiff, Nat.reduceEqDiff, Int.reduceToNat, Nat.reduceLT, ↓reduceIte, Int.reduceEq, Int.reduceLT, Int.reduceLE, hd]
              subst hQ
              exact .inr hJ
          · have hd' : ¬ 0 < m := by simp only [decide_eq_false_iff_not] at hd; omega
            have w3 : IntKind.i64.wrap (((a + m : Nat) : Int) + 1) = ((a + m + 1 : Nat) : Int) := (wrap64 (by omega) (by omega)).trans (by omega)
            rw [if_neg hd', List.nil_append] at hR
            simp -implicitDefEqProofs (disch := first | decide | assumption | omega | (simp -implicitDefEqProofs only [AM.RN]; first | done | omega) | fail) only [↓AM.R0, AM.R1, AM.R2, Nat.reduceAdd, Nat.reduceLeDiff, Nat.reduceEqDiff, Int.reduceToNat, Nat.reduceLT, ↓reduceIte, Int.reduceEq, Int.reduceLT, Int.reduceLE, e3, e4, hd, w1, w3]
            exact ⟨k, by omega, a + m + 1, l, by omega, by omega, e0, e1, rfl, hI, hR⟩
    · simp only [decide_eq_false_iff_not] at hb
      have hz : rowsF (fw ws) n k a = [] := by
        cases k with
        | zero => rfl
        | succ k => rw [rowsF, if_neg (by omega)]
      simp -implicitDefEqProofs (disch := first | decide | assumption | omega | (simp -implicitDefEqProofs only [AM.RN]; first | done | omega) | fail) only [↓AM.R0, AM.R1, AM.R2, Nat.reduceAdd, Nat.reduceLeDiff, Nat.reduceEqDiff, Int.reduceToNat, Nat.reduceLT, ↓reduceIte, Int.reduceEq, Int.reduceLT, Int.reduceLE]
      subst hQ
      rw [hz, List.append_nil] at hR
      exact .inl (hR ▸ hI)

def sumR (l : List (Nat × Nat)) : Nat := (l.map (·.2)).sum
theorem sumR_app (l : List (Nat × Nat)) (a k : Nat) : sumR (l ++ [(a, k)]) = sumR l + k := by simp [sumR]
theorem sumR_rest (l t : List (Nat × Nat)) (a k : Nat) : sumR l + k ≤ sumR (l ++ (a, k) :: t) := by simp [sumR]
theorem sum_rowsF {f : Nat → Bool} {n : Nat} (ho : ∀ q, n ≤ q → f q = false) : ∀ k p, sumR (rowsF f n k p) ≤ n - p
  | 0, p => by simp [rowsF, sumR]
  | k + 1, p => by
    rw [rowsF]
    split
    · rename_i hp
      have ih := sum_rowsF ho k (p + cntF f (n - p) p + 1)
      have hc : ∀ j p, cntF f j p ≤ j := fun j => by
        induction j with
        | zero => intro p; exact Nat.le_refl _
        | succ j ih => intro p; rw [cntF]; split
                       · have := ih (p + 1); omega
                       · omega
      have hc := hc (n - p) p
      split
      · simp only [List.cons_append, List.nil_append]
        have : sumR ((p, cntF f (n - p) p) :: rowsF f n k (p + cntF f (n - p) p + 1)) = cntF f (n - p) p + sumR (rowsF f n k (p + cntF f (n - p) p + 1)) := by simp [sumR]
        rw [this]; omega
      · rw [List.nil_append]; omega
    · simp [sumR]

theorem PgV.topS {h : AHeap} {p : PI} {n : Nat} {ws : List Nat} {lv : List (List Sm)} (K : PgV h p n ws lv) : ∃ x it, IsSum (fw ws) 0 (64 * ws.length) x ∧ lv[lv.length - 1]? = some [x] ∧ p.ids[lv.length - 1]? = some it := by
  have hne := K.ne
  obtain ⟨lt, hlt⟩ : ∃ l, lv[lv.length - 1]? = some l := ⟨_, List.getElem?_eq_getElem (by omega)⟩
  obtain ⟨it, hit⟩ : ∃ l, p.ids[lv.length - 1]? = some l := ⟨_, List.getElem?_eq_getElem (by have := K.R.len; omega)⟩
  have ltl : lt.length = 1 := (K.S _ _ hlt).trans K.top
  obtain ⟨x, rfl⟩ : ∃ x, lt = [x] := List.length_eq_one_iff.1 ltl
  have VT := K.V _ _ 0 x hlt rfl
  unfold Val at VT
  have hge := cl_ge ws.length (lv.length - 1)
  rw [K.top, Nat.mul_one] at hge
  rw [Nat.mul_zero, Nat.zero_min, Nat.zero_add, Nat.mul_one, Nat.min_eq_right (by omega)] at VT
  exact ⟨x, it, VT, hlt, hit⟩

theorem runsW {h : AHeap} {p : PI} : CallP AP 61 [.ptr p.id 0 0] h fun r h' => h' = h.push (.cells 0 false [.ptr p.id 0 0]) ∧ r = .fn (.func 84) [] [.ptr h.n 0 0] := by
  refine callP (rfl : Tr.get AP 61 = some A61) ?_
  generalize hQ : (fun (r : AVal) (h' : AHeap) => _) = Q
  simp -implicitDefEqProofs (disch := first | decide | assumption | omega | (simp -implicitDefEqProofs only [AM.RN]; first | done | omega) | fail) only [↓AM.R0, AM.R1, AM.R2, Nat.reduceAdd, Nat.reduceLeDiff, Nat.reduceEqDiff, Int.reduceToNat, Nat.reduceLT, ↓reduceIte, Int.reduceEq, Int.reduceLT, Int.reduceLE]
  subst hQ
  exact ⟨rfl, rfl⟩

set_option maxHeartbeats 4000000 in
theorem countsW {h : AHeap} {p : PI} {n : Nat} {ws : List Nat} {lv : List (List Sm)} (K : PgV h p n ws lv) : CallP AP 21 [.ptr p.id 0 0] h fun r h' => HFrame h h' [] [] ∧ ∃ x, IsSum (fw ws) 0 (64 * ws.length) x ∧
    r = .tup [.int .i64 (sumR (rowsF (fw ws) n n 0) : Nat), .int .i64 (x.m : Int)] := by
  refine callP (rfl : Tr.get AP 21 = some A21) ?_
  generalize hQ : (fun (r : AVal) (h' : AHeap) => _) = Q
  have hn2 := K.n2
  obtain ⟨b1, b2, b3, b4, b5, b6⟩ := K.R.basic
  simp -implicitDefEqProofs (disch := first | decide | assumption | omega | (simp -implicitDefEqProofs only [AM.RN]; first | done | omega) | fail) only [↓AM.R0, AM.R1, AM.R2, Nat.reduceAdd, Nat.reduceLeDiff, Nat.reduceEqDiff, Int.reduceToNat, Nat.reduceLT, ↓reduceIte, Int.reduceEq, Int.reduceLT, Int.reduceLE]
  refine AM.callI_of runsW ?_
  rintro r h1 ⟨hh, rfl⟩
  simp -implicitDefEqProofs (disch := first | decide | assumption | omega | (simp -implicitDefEqProofs only [AM.RN]; first | done | omega) | fail) only [↓AM.R0, AM.R1, AM.R2, Nat.reduceAdd, Nat.reduceLeDiff, Nat.reduceEqDiff, Int.reduceToNat, Nat.reduceLT, ↓reduceIte, Int.reduceEq, Int.reduceLT, Int.reduceLE]
  generalize hE : Tr.set _ 10 (AVal.fn (Fn.func 84) [] [AVal.ptr (h.n + 1) 0 0]) = e
  have e0 : Env.val e 0 = AVal.ptr p.id 0 0 := by rw [← hE]; simp -implicitDefEqProofs (disch := first | decide | assumption | omega | (simp -implicitDefEqProofs only [AM.RN]; first | done | omega) | fail) only [↓AM.R0, AM.R1, AM.R2, Nat.reduceAdd, Nat.reduceLeDiff, Nat.reduceEqDiff, Int.reduceToNat, Nat.reduceLT, ↓reduceIte, Int.reduceEq, Int.reduceLT, Int.reduceLE]
  have e4 : Env.val e 4 = AVal.ptr h.n 0 0 := by rw [← hE]; simp -implicitDefEqProofs (disch := first | decide | assumption | omega | (simp -implicitDefEqProofs only [AM.RN]; first | done | omega) | fail) only [↓AM.R0, AM.R1, AM.R2, Nat.reduceAdd, Nat.reduceLeDiff, Nat.reduceEqDiff, Int.reduceToNat, Nat.reduceLT, ↓reduceIte, Int.reduceEq, Int.reduceLT, Int.reduceLE]
  clear hE
  have f1 : HFrame h h1 [] [] := by rw [hh]; exact (((HFrame.refl (h := h) (F := []) (by simp)).pushTmp _).setTmp (Nat.le_refl _) _).pushTmp _
  have n1 : h1.n = h.n + 2 := by rw [hh]; simp
  have g1 : h1.get h.n = .cells 0 false [.int .i64 0] := by rw [hh, AHeap.get_push_ne _ _ (by simp), AHeap.get_set_same]
  have g2 : h1.get (h.n + 1) = .cells 0 false [.ptr p.id 0 0] := by
    have : ((h.push (.cells 0 false [.int .i64 0])).set h.n (.cells 0 false [.int .i64 0])).n = h.n + 1 := by simp
    rw [hh, ← this, AHeap.get_push_same]
  clear hh
  rw [n1]
  generalize hLo : AObj.loop 0 none e [11, 12] _ _ = lo
  refine AM.rangeC_of (genW (p := p) (n := n) (ws := ws) hn2 (fun l h' => HFrame h h' [] [] ∧ h.n + 3 ≤ h'.n ∧ h'.get h.n = .cells 0 false [.int .i64 (sumR l : Nat)] ∧ h'.get (h.n + 1) = .cells 0 false [.ptr p.id 0 0] ∧
    h'.get (h.n + 2) = lo) (fun _ => False) ?_ ?_ ?_) ?_
  · exact fun l h' H => ⟨⟨lv, K.keep H.1⟩, H.2.2.2.1, by have := H.2.1; omega⟩
  · rintro l h' a k t ⟨f3, n3, q1, q2, q3⟩ hr
    have hsum : sumR l + k ≤ 4096 := by
      have z1 := sumR_rest l t a k
      rw [← hr] at z1
      have z2 := sum_rowsF K.out n 0
      omega
    have w1 : IntKind.i64.wrap (((sumR l : Nat) : Int) + (k : Int)) = ((sumR l + k : Nat) : Int) := (wrap64 (by omega) (by omega)).trans (by omega)
    rw [← hLo] at q3
    refine AM.yldP q3 rfl ?_
    simp only [AM.putAll]
    simp -implicitDefEqProofs (disch := first | decide | assumption | omega | (simp -implicitDefEqProofs only [AM.RN]; first | done | omega) | fail) only [↓AM.R0, AM.R1, AM.R2, Nat.reduceAdd, Nat.reduceLeDiff, Nat.reduceEqDiff, Int.reduceToNat, Nat.reduceLT, ↓reduceIte, Int.reduceEq, Int.reduceLT, Int.reduceLE]
    refine AM.asgQ_of q3 ?_
    simp -implicitDefEqProofs (disch := first | decide | assumption | omega | (simp -implicitDefEqProofs only [AM.RN]; first | done | omega) | fail) only [↓AM.R0, AM.R1, AM.R2, Nat.reduceAdd, Nat.reduceLeDiff, Nat.reduceEqDiff, Int.reduceToNat, Nat.reduceLT, ↓reduceIte, Int.reduceEq, Int.reduceLT, Int.reduceLE, e4, q1, w1]
    refine AM.roundQ_of (st := 1) (p2 := none) (e2 := e) (by rw [AHeap.get_set_ne _ _ (by omega), AHeap.get_set_same]) ?_
    refine .inl ⟨rfl, ((f3.setTmp (by omega) _).setTmp (Nat.le_refl _) _).setTmp (by omega) _, by simpa using n3, ?_, ?_, ?_⟩
    · rw [AHeap.get_set_ne _ _ (by omega), AHeap.get_set_same, sumR_app]
    · rw [AHeap.get_set_ne _ _ (by omega), AHeap.get_set_ne _ _ (by omega), AHeap.get_set_ne _ _ (by omega), q2]
    · rw [AHeap.get_set_same, ← hLo]; rfl
  · refine ⟨f1.pushTmp _, by simp [n1], ?_, ?_, ?_⟩
    · rw [AHeap.get_push_ne _ _ (by omega), g1]; rfl
    · rw [AHeap.get_push_ne _ _ (by omega), g2]
    · rw [← n1, AHeap.get_push_same]
  · rintro r h' (⟨f3, n3, q1, q2, q3⟩ | q)
    · rw [← hLo] at q3
      refine AM.rangeQ_of q3 (by decide) ?_
      simp only [AM.pendX]
      have f4 := f3.setTmp (i := h.n + 2) (by omega) (.loop 3 none e [11, 12] (ACode.region [⟨some 6, .op (.mov (.tmp 12)), none⟩]) (ACode.block 1 (ACode.region [⟨some 13, .op (.load none (.tmp 4)), none⟩, ⟨some 14, .op (.mov (.tmp 6)), none⟩, ⟨some 15, .op (.bin .add (.tmp 13) (.tmp 14)), none⟩, ⟨none, .op (.store 1 (.tmp 4) (.tmp 15)), none⟩])))
      have q4 : (h'.set (h.n + 2) (.loop 3 none e [11, 12] (ACode.region [⟨some 6, .op (.mov (.tmp 12)), none⟩]) (ACode.block 1 (ACode.region [⟨some 13, .op (.load none (.tmp 4)), none⟩, ⟨some 14, .op (.mov (.tmp 6)), none⟩, ⟨some 15, .op (.bin .add (.tmp 13) (.tmp 14)), none⟩, ⟨none, .op (.store 1 (.tmp 4) (.tmp 15)), none⟩])))).get h.n = .cells 0 false [.int .i64 (sumR (rowsF (fw ws) n n 0) : Nat)] := by
        rw [AHeap.get_set_ne _ _ (by omega), q1]
      generalize hS : h'.set (h.n + 2) _ = h4 at f4 q4 ⊢
      have K4 := K.keep f4
      obtain ⟨x, it, V, hlt, hit⟩ := K4.topS
      have gt := K4.R.lvl _ _ _ hlt hit
      have st := svals_at hlt hit
      have g1 := K4.R.obj
      have g3 := K4.R.sums
      have hne := K.ne
      have hle := K.le
      obtain ⟨b1, b2, b3, b4, b5, b6⟩ := K4.R.basic
      obtain ⟨c1, c2, c3, c4, c5⟩ := K4.R.mem hit
      have w1 : IntKind.i64.wrap ((lv.length : Int) - 1) = ((lv.length - 1 : Nat) : Int) := (wrap64 (by omega) (by omega)).trans (by omega)
      have x1 := ix1 g3 (len := lv.length) (i := lv.length - 1) (by omega)
      have x4 : ixV h4 4 (.sl it 0 0 1 4) (.int .i64 0) = some (.ptr it 0 0, h4) := ix4 gt (len := 1) (i := 0) (by omega)
      simp only [List.flatMap_cons, List.flatMap_nil, List.append_nil, encS] at gt
      simp only [List.length_cons, List.length_nil, Nat.zero_add] at st
      have hn4 : h.n < h4.n := by rw [← hS]; simp; omega
      simp -implicitDefEqProofs (disch := first | decide | assumption | omega | (simp -implicitDefEqProofs only [AM.RN]; first | done | omega) | fail) only [↓AM.R0, AM.R1, AM.R2, Nat.reduceAdd, Nat.reduceLeDiff, Nat.reduceEqDiff, Int.reduceToNat, Nat.reduceLT, ↓reduceIte, Int.reduceEq, Int.reduceLT, Int.reduceLE, e0, e4, q4, g1, g3, gt, st, w1, x1, x4]
      subst hQ
      exact ⟨f4, x, V, rfl⟩
    · exact q.elim
end Go.Proofs.YthillgheddpmhaaDoor.Pg

namespace Go.Proofs.YthillgheddpmhaaDoor.Pg
open Go Go.AM Go.Proofs.YthillgheddpmhaaDoor.AmGL
attribute [local irreducible] AM.wp AM.wpIs AM.wpTr AM.opI AM.gI AM.cI AM.trI AM.callI AM.fnI AM.yldI AM.rangeI AM.rangeC AM.YldP AM.asgQ AM.roundQ AM.rangeQ AM.trG AM.trOp AM.trCall AM.seqC AM.loopI
set_option maxRecDepth 100000
set_option linter.unusedVariables false
set_option linter.unusedSimpArgs false

/-- The reference's marks. -/
def ub (f : Nat → Bool) (n : Nat) : List AVal := (List.range n).map fun q => .bool (!f q)
theorem ub_len (f : Nat → Bool) (n : Nat) : (ub f n).length = n := by simp [ub]
theorem ub_at {f : Nat → Bool} {n q : Nat} (h : q < n) : (ub f n)[q]? = some (.bool (!f q)) := by rw [ub, List.getElem?_map, List.getElem?_range h]; rfl
theorem ub_set {f g : Nat → Bool} {n q : Nat} {u : Bool} (h : q < n) (hg : ∀ x, g x = if x = q then !u else f x) : (ub f n).take q ++ [.bool u] ++ (ub f n).drop (q + 1) = ub g n := by
  have e : (ub f n).take q ++ [.bool u] ++ (ub f n).drop (q + 1) = (ub f n).set q (.bool u) := by
    rw [List.set_eq_take_append_cons_drop, if_pos (by rw [ub_len]; exact h), List.append_assoc]; rfl
  rw [e]
  apply List.ext_getElem?
  intro i
  rcases Nat.lt_or_ge i n with c | c
  · rw [ub_at c, hg]
    by_cases ei : q = i
    · subst ei; rw [List.getElem?_set_self (by rw [ub_len]; exact h), if_pos rfl, Bool.not_not]
    · rw [List.getElem?_set_ne ei, ub_at c, if_neg (Ne.symm ei)]
  · rw [List.getElem?_eq_none (by rw [List.length_set, ub_len]; exact c), List.getElem?_eq_none (by rw [ub_len]; exact c)]
structure RefR (h : AHeap) (r b n : Nat) (f : Nat → Bool) : Prop where
  obj : h.get r = .cells 0 false [.sl b 0 0 n 1]
  bits : h.get b = .cells 0 false (ub f n)
  ne : r ≠ b
  lr : r < h.n
  lb : b < h.n
  n2 : n ≤ 4096
  out : ∀ q, n ≤ q → f q = false
theorem RefR.keepD {h h' : AHeap} {A A' : List Nat} {r b n : Nat} {f : Nat → Bool} (R : RefR h r b n f) (F : HFrame h h' A A') (hr : r ∉ A) (hb : b ∉ A) : RefR h' r b n f :=
  ⟨(F.get r R.lr hr).trans R.obj, (F.get b R.lb hb).trans R.bits, R.ne, Nat.lt_of_lt_of_le R.lr F.n, Nat.lt_of_lt_of_le R.lb F.n, R.n2, R.out⟩
theorem RefR.set {h : AHeap} {r b n : Nat} {f g : Nat → Bool} (R : RefR h r b n f) (ho : ∀ q, n ≤ q → g q = false) : RefR (h.set b (.cells 0 false (ub g n))) r b n g :=
  ⟨(AHeap.get_set_ne _ _ R.ne).trans R.obj, AHeap.get_set_same _ _ _, R.ne, by simpa using R.lr, by simpa using R.lb, R.n2, ho⟩
theorem ms0 {h : AHeap} {k : Nat} (hk : k ≤ 1000000) : msV h 1 1 [.bool false] (.int .i64 (k : Int)) = some (.sl h.n 0 0 k 1, h.push (.cells 0 false (ub (fun q => decide (q < k)) k))) := by
  unfold msV
  simp only [Int.toNat_natCast]
  rw [if_pos ⟨by omega, by omega, by omega⟩]
  have : (List.range (k * 1)).map (fun i => [AVal.bool false].getD (i % 1) .undef) = ub (fun q => decide (q < k)) k := by
    rw [Nat.mul_one, ub]
    apply List.map_congr_left
    intro q hq
    rw [List.mem_range] at hq
    simp [Nat.mod_one, hq]
  rw [this]
set_option maxHeartbeats 2000000 in
theorem rNew {h : AHeap} (n : Int) : CallP AP 22 [.int .i64 n] h fun v h' => (¬ (1 ≤ n ∧ n ≤ 4096) ∧ HFrame h h' [] [] ∧ v = .tup [.nilp, .int .i64 1]) ∨
    (1 ≤ n ∧ n ≤ 4096 ∧ ∃ r b, HFrame h h' [] [r, b] ∧ RefR h' r b n.toNat (fun q => decide (q < n.toNat)) ∧ v = .tup [.ptr r 0 0, .int .i64 0]) := by
  refine callP (rfl : Tr.get AP 22 = some A22) ?_
  generalize hQ : (fun (r : AVal) (h' : AHeap) => _) = Q
  rcases Int.lt_or_le n 1 with c | c
  · have d1 : decide (n < 1) = true := decide_eq_true c
    simp -implicitDefEqProofs (disch := first | decide | assumption | omega | (simp -implicitDefEqProofs only [AM.RN]; first | done | omega) | fail) only [↓AM.R0, AM.R1, AM.R2, Nat.reduceAdd, Nat.reduceLeDiff, Nat.reduceEqDiff, Int.reduceToNat, Nat.reduceLT, ↓reduceIte, Int.reduceEq, Int.reduceLT, Int.reduceLE, d1]
    subst hQ
    exact .inl ⟨by omega, HFrame.refl (by simp), rfl⟩
  have d1 : decide (n < 1) = false := decide_eq_false (by omega)
  rcases Int.lt_or_le 4096 n with c2 | c2
  · have d2 : decide (4096 < n) = true := decide_eq_true c2
    simp -implicitDefEqProofs (disch := first | decide | assumption | omega | (simp -implicitDefEqProofs only [AM.RN]; first | done | omega) | fail) only [↓AM.R0, AM.R1, AM.R2, Nat.reduceAdd, Nat.reduceLeDiff, Nat.reduceEqDiff, Int.reduceToNat, Nat.reduceLT, ↓reduceIte, Int.reduceEq, Int.reduceLT, Int.reduceLE, d1, d2]
    subst hQ
    exact .inl ⟨by omega, HFrame.refl (by simp), rfl⟩
  have d2 : decide (4096 < n) = false := decide_eq_false (by omega)
  obtain ⟨n, rfl⟩ : ∃ a : Nat, n = a := ⟨n.toNat, by omega⟩
  have ms := ms0 (h := h) (k := n) (by omega)
  simp -implicitDefEqProofs (disch := first | decide | assumption | omega | (simp -implicitDefEqProofs only [AM.RN]; first | done | omega) | fail) only [↓AM.R0, AM.R1, AM.R2, Nat.reduceAdd, Nat.reduceLeDiff, Nat.reduceEqDiff, Int.reduceToNat, Nat.reduceLT, ↓reduceIte, Int.reduceEq, Int.reduceLT, Int.reduceLE, d1, d2, ms]
  subst hQ
  refine .inr ⟨by omega, by omega, h.n + 1, h.n, ?_, ⟨?_, ?_, by omega, by simp, by simp; omega, by omega, fun q hq => by rw [Int.toNat_natCast] at hq; exact decide_eq_false (by rw [Int.toNat_natCast]; omega)⟩, rfl⟩
  · have f := ((HFrame.refl (h := h) (F := []) (by simp)).pushTmp (.cells 0 false (ub (fun q => decide (q < n)) n))).pushTmp (.cells 0 false [.sl h.n 0 0 n 1])
    exact ⟨f.n, f.g, f.get, fun j hj => .inr (by simp at hj; omega), fun j hj => by simp at hj; simp; omega⟩
  · rw [Int.toNat_natCast]; exact AHeap.get_push_same _ _
  · rw [Int.toNat_natCast, AHeap.get_push_ne _ _ (by simp), AHeap.get_push_same]
set_option maxHeartbeats 2000000 in
theorem rRun {h : AHeap} {r b n : Nat} {f : Nat → Bool} (R : RefR h r b n f) {a : Nat} (ha : a ≤ n) : CallP AP 62 [.ptr r 0 0, .int .i64 (a : Int)] h fun v h' => h' = h ∧ v = .int .i64 (cntF f (n - a) a : Nat) := by
  refine callP (rfl : Tr.get AP 62 = some A62) ?_
  generalize hQ : (fun (r : AVal) (h' : AHeap) => _) = Q
  have g1 := R.obj
  have g2 := R.bits
  have hn := R.n2
  have lr := R.lr
  have lb := R.lb
  simp -implicitDefEqProofs (disch := first | decide | assumption | omega | (simp -implicitDefEqProofs only [AM.RN]; first | done | omega) | fail) only [↓AM.R0, AM.R1, AM.R2, Nat.reduceAdd, Nat.reduceLeDiff, Nat.reduceEqDiff, Int.reduceToNat, Nat.reduceLT, ↓reduceIte, Int.reduceEq, Int.reduceLT, Int.reduceLE]
  refine AM.loopI_of (fun k e h' => ∃ m : Nat, k + (a + m) = n ∧ h' = h ∧ e.val 0 = .ptr r 0 0 ∧ e.val 1 = .int .i64 (a : Int) ∧ e.val 5 = .int .i64 (m : Int) ∧ Row f a m) (n - a) ?_ ?_
  · refine ⟨0, by omega, rfl, ?_, ?_, ?_, fun t ht => by omega⟩ <;> simp -implicitDefEqProofs (disch := first | decide | assumption | omega | (simp -implicitDefEqProofs only [AM.RN]; first | done | omega) | fail) only [↓AM.R0, AM.R1, AM.R2, Nat.reduceAdd, Nat.reduceLeDiff, Nat.reduceEqDiff, Int.reduceToNat, Nat.reduceLT, ↓reduceIte, Int.reduceEq, Int.reduceLT, Int.reduceLE] <;> rfl
  · rintro k e h' ⟨m, hk, hh, e0, e1, e5, hrow⟩
    rw [hh]
    have w1 : IntKind.i64.wrap ((a : Int) + (m : Int)) = ((a + m : Nat) : Int) := (wrap64 (by omega) (by omega)).trans (by omega)
    have w2 : IntKind.i64.wrap ((m : Int) + 1) = ((m + 1 : Nat) : Int) := (wrap64 (by omega) (by omega)).trans (by omega)
    have fin : (n ≤ a + m ∨ f (a + m) = false) → cntF f (n - a) a = m := fun hq => cntF_eq _ _ _ hrow (by
      rcases hq with q | q
      · exact R.out _ q
      · exact q) (by omega)
    simp -implicitDefEqProofs (disch := first | decide | assumption | omega | (simp -implicitDefEqProofs only [AM.RN]; first | done | omega) | fail) only [↓AM.R0, AM.R1, AM.R2, Nat.reduceAdd, Nat.reduceLeDiff, Nat.reduceEqDiff, Int.reduceToNat, Nat.reduceLT, ↓reduceIte, Int.reduceEq, Int.reduceLT, Int.reduceLE, e0, e1, e5, g1, w1]
    refine AM.gI_bool (fun hb => ?_) (fun hb => ?_)
    · have hlt : a + m < n := by simp only [decide_eq_true_eq] at hb; omega
      have x1 := ix1 g2 (len := n) hlt
      have x2 := ub_at (f := f) hlt
      simp -implicitDefEqProofs (disch := first | decide | assumption | omega | (simp -implicitDefEqProofs only [AM.RN]; first | done | omega) | fail) only [↓AM.R0, AM.R1, AM.R2, Nat.reduceAdd, Nat.reduceLeDiff, Nat.reduceEqDiff, Int.reduceToNat, Nat.reduceLT, ↓reduceIte, Int.reduceEq, Int.reduceLT, Int.reduceLE, e0, e1, e5, g1, g2, w1, hb, x1, x2]
      rw [Bool.not_not]
      refine AM.cI_bool (fun hc => ?_) (fun hc => ?_)
      · simp -implicitDefEqProofs (disch := first | decide | assumption | omega | (simp -implicitDefEqProofs only [AM.RN]; first | done | omega) | fail) only [↓AM.R0, AM.R1, AM.R2, Nat.reduceAdd, Nat.reduceLeDiff, Nat.reduceEqDiff, Int.reduceToNat, Nat.reduceLT, ↓reduceIte, Int.reduceEq, Int.reduceLT, Int.reduceLE, e5, w2]
        exact ⟨k - 1, by omega, m + 1, by omega, e0, e1, rfl, hrow.join (q := a + m) (j := 1) (fun t ht => by rw [show a + m + t = a + m by omega]; exact hc) rfl⟩
      · simp -implicitDefEqProofs (disch := first | decide | assumption | omega | (simp -implicitDefEqProofs only [AM.RN]; first | done | omega) | fail) only [↓AM.R0, AM.R1, AM.R2, Nat.reduceAdd, Nat.reduceLeDiff, Nat.reduceEqDiff, Int.reduceToNat, Nat.reduceLT, ↓reduceIte, Int.reduceEq, Int.reduceLT, Int.reduceLE, e5]
        subst hQ
        exact ⟨rfl, by rw [fin (.inr hc)]⟩
    · have hlt : n ≤ a + m := by simp only [decide_eq_false_iff_not] at hb; omega
      simp -implicitDefEqProofs (disch := first | decide | assumption | omega | (simp -implicitDefEqProofs only [AM.RN]; first | done | omega) | fail) only [↓AM.R0, AM.R1, AM.R2, Nat.reduceAdd, Nat.reduceLeDiff, Nat.reduceEqDiff, Int.reduceToNat, Nat.reduceLT, ↓reduceIte, Int.reduceEq, Int.reduceLT, Int.reduceLE, e5, hb]
      subst hQ
      exact ⟨rfl, by rw [fin (.inl hlt)]⟩
set_option maxHeartbeats 2000000 in
theorem rSet {h : AHeap} {r b n : Nat} {f : Nat → Bool} (R : RefR h r b n f) {a m : Nat} (ha : a + m ≤ n) (u : Bool) : CallP AP 63 [.ptr r 0 0, .int .i64 (a : Int), .int .i64 (m : Int), .bool u] h fun v h' => HFrame h h' [b] [b] ∧ RefR h' r b n (fun q => if a ≤ q ∧ q < a + m then !u else f q) ∧ v = .tup [] := by
  refine callP (rfl : Tr.get AP 63 = some A63) ?_
  generalize hQ : (fun (r : AVal) (h' : AHeap) => _) = Q
  have hn := R.n2
  simp -implicitDefEqProofs (disch := first | decide | assumption | omega | (simp -implicitDefEqProofs only [AM.RN]; first | done | omega) | fail) only [↓AM.R0, AM.R1, AM.R2, Nat.reduceAdd, Nat.reduceLeDiff, Nat.reduceEqDiff, Int.reduceToNat, Nat.reduceLT, ↓reduceIte, Int.reduceEq, Int.reduceLT, Int.reduceLE]
  refine AM.loopI_of (fun k e h' => ∃ x : Nat, k + x = a + m ∧ a ≤ x ∧ e.val 0 = .ptr r 0 0 ∧ e.val 1 = .int .i64 (a : Int) ∧ e.val 2 = .int .i64 (m : Int) ∧ e.val 3 = .bool u ∧ e.val 8 = .int .i64 (x : Int) ∧ HFrame h h' [b] [b] ∧ RefR h' r b n (fun q => if a ≤ q ∧ q < x then !u else f q)) m ?_ ?_
  · refine ⟨a, by omega, by omega, ?_, ?_, ?_, ?_, ?_, HFrame.refl (by simpa using R.lb), ?_⟩
    · simp -implicitDefEqProofs (disch := first | decide | assumption | omega | (simp -implicitDefEqProofs only [AM.RN]; first | done | omega) | fail) only [↓AM.R0, AM.R1, AM.R2, Nat.reduceAdd, Nat.reduceLeDiff, Nat.reduceEqDiff, Int.reduceToNat, Nat.reduceLT, ↓reduceIte, Int.reduceEq, Int.reduceLT, Int.reduceLE]
    · simp -implicitDefEqProofs (disch := first | decide | assumption | omega | (simp -implicitDefEqProofs only [AM.RN]; first | done | omega) | fail) only [↓AM.R0, AM.R1, AM.R2, Nat.reduceAdd, Nat.reduceLeDiff, Nat.reduceEqDiff, Int.reduceToNat, Nat.reduceLT, ↓reduceIte, Int.reduceEq, Int.reduceLT, Int.reduceLE]
    · simp -implicitDefEqProofs (disch := first | decide | assumption | omega | (simp -implicitDefEqProofs only [AM.RN]; first | done | omega) | fail) only [↓AM.R0, AM.R1, AM.R2, Nat.reduceAdd, Nat.reduceLeDiff, Nat.reduceEqDiff, Int.reduceToNat, Nat.reduceLT, ↓reduceIte, Int.reduceEq, Int.reduceLT, Int.reduceLE]
    · simp -implicitDefEqProofs (disch := first | decide | assumption | omega | (simp -implicitDefEqProofs only [AM.RN]; first | done | omega) | fail) only [↓AM.R0, AM.R1, AM.R2, Nat.reduceAdd, Nat.reduceLeDiff, Nat.reduceEqDiff, Int.reduceToNat, Nat.reduceLT, ↓reduceIte, Int.reduceEq, Int.reduceLT, Int.reduceLE]
    · simp -implicitDefEqProofs (disch := first | decide | assumption | omega | (simp -implicitDefEqProofs only [AM.RN]; first | done | omega) | fail) only [↓AM.R0, AM.R1, AM.R2, Nat.reduceAdd, Nat.reduceLeDiff, Nat.reduceEqDiff, Int.reduceToNat, Nat.reduceLT, ↓reduceIte, Int.reduceEq, Int.reduceLT, Int.reduceLE]
    · have : (fun q => if a ≤ q ∧ q < a then !u else f q) = f := by funext q; rw [if_neg (by omega)]
      rw [this]; exact R
  · clear R
    rintro k e h' ⟨x, hk, hax, e0, e1, e2, e3, e8, F, R⟩
    have g1 := R.obj
    have g2 := R.bits
    have lr := R.lr
    have lb := R.lb
    have w1 : IntKind.i64.wrap ((a : Int) + (m : Int)) = ((a + m : Nat) : Int) := (wrap64 (by omega) (by omega)).trans (by omega)
    simp -implicitDefEqProofs (disch := first | decide | assumption | omega | (simp -implicitDefEqProofs only [AM.RN]; first | done | omega) | fail) only [↓AM.R0, AM.R1, AM.R2, Nat.reduceAdd, Nat.reduceLeDiff, Nat.reduceEqDiff, Int.reduceToNat, Nat.reduceLT, ↓reduceIte, Int.reduceEq, Int.reduceLT, Int.reduceLE, e1, e2, e8, w1]
    refine AM.cI_bool (fun hc => ?_) (fun hc => ?_)
    · simp only [decide_eq_true_eq] at hc
      have x1 := ix1 g2 (len := n) (i := x) (by omega)
      have w2 : IntKind.i64.wrap ((x : Int) + 1) = ((x + 1 : Nat) : Int) := (wrap64 (by omega) (by omega)).trans (by omega)
      have hlen : x + 1 ≤ (ub (fun q => if a ≤ q ∧ q < x then !u else f q) n).length := by rw [ub_len]; omega
      have us := ub_set (f := fun q => if a ≤ q ∧ q < x then !u else f q) (g := fun q => if a ≤ q ∧ q < x + 1 then !u else f q) (n := n) (q := x) (u := u) (by omega) (fun y => by
        by_cases e : y = x
        · subst e; rw [if_pos (by omega), if_pos rfl]
        · rw [if_neg e]
          by_cases e2 : a ≤ y ∧ y < x
          · rw [if_pos e2, if_pos (by omega)]
          · rw [if_neg e2, if_neg (by omega)])
      have f2 := HFrame.set h' b (.cells 0 false (ub (fun q => if a ≤ q ∧ q < x + 1 then !u else f q) n)) (F := [b]) (by simp) (by simpa using lb)
      have R2 := R.set (g := fun q => if a ≤ q ∧ q < x + 1 then !u else f q) (fun q hq => by
        show (if a ≤ q ∧ q < x + 1 then !u else f q) = false
        have := R.out q hq
        rw [if_neg (by omega)] at this ⊢
        exact this)
      simp -implicitDefEqProofs (disch := first | decide | assumption | omega | (simp -implicitDefEqProofs only [AM.RN]; first | done | omega) | fail) only [↓AM.R0, AM.R1, AM.R2, Nat.reduceAdd, Nat.reduceLeDiff, Nat.reduceEqDiff, Int.reduceToNat, Nat.reduceLT, ↓reduceIte, Int.reduceEq, Int.reduceLT, Int.reduceLE, e0, e3, e8, g1, g2, x1, hlen, us, w2]
      exact ⟨k - 1, by omega, x + 1, by omega, by omega, e1, e2, rfl, F.trans f2, R2⟩
    · simp only [decide_eq_false_iff_not] at hc
      obtain rfl : x = a + m := by omega
      simp -implicitDefEqProofs (disch := first | decide | assumption | omega | (simp -implicitDefEqProofs only [AM.RN]; first | done | omega) | fail) only [↓AM.R0, AM.R1, AM.R2, Nat.reduceAdd, Nat.reduceLeDiff, Nat.reduceEqDiff, Int.reduceToNat, Nat.reduceLT, ↓reduceIte, Int.reduceEq, Int.reduceLT, Int.reduceLE]
      subst hQ
      exact ⟨F, R, rfl⟩

/-- Whether a place is free; one that there isn't is none. -/
def fiF (f : Nat → Bool) (x : Int) : Bool := decide (0 ≤ x) && f x.toNat
set_option maxHeartbeats 2000000 in
theorem rUsed {h : AHeap} {r b n : Nat} {f : Nat → Bool} (R : RefR h r b n f) (x : Int) : CallP AP 26 [.ptr r 0 0, .int .i64 x] h fun v h' => h' = h ∧ v = .bool (!fiF f x) := by
  refine callP (rfl : Tr.get AP 26 = some A26) ?_
  generalize hQ : (fun (r : AVal) (h' : AHeap) => _) = Q
  have g1 := R.obj
  have g2 := R.bits
  have lr := R.lr
  have lb := R.lb
  rcases Int.lt_or_le x 0 with c | c
  · have d1 : decide (x < 0) = true := decide_eq_true c
    simp -implicitDefEqProofs (disch := first | decide | assumption | omega | (simp -implicitDefEqProofs only [AM.RN]; first | done | omega) | fail) only [↓AM.R0, AM.R1, AM.R2, Nat.reduceAdd, Nat.reduceLeDiff, Nat.reduceEqDiff, Int.reduceToNat, Nat.reduceLT, ↓reduceIte, Int.reduceEq, Int.reduceLT, Int.reduceLE, d1]
    subst hQ
    refine ⟨rfl, ?_⟩
    have : decide (0 ≤ x) = false := decide_eq_false (by omega)
    rw [fiF, this]; rfl
  · have d1 : decide (x < 0) = false := decide_eq_false (by omega)
    obtain ⟨a, rfl⟩ : ∃ a : Nat, x = a := ⟨x.toNat, by omega⟩
    have d0 : decide (0 ≤ (a : Int)) = true := decide_eq_true (by omega)
    rcases Nat.lt_or_ge a n with e | e
    · have d2 : decide ((n : Int) ≤ (a : Int)) = false := decide_eq_false (by omega)
      have x1 := ix1 g2 (len := n) e
      have x2 := ub_at (f := f) e
      simp -implicitDefEqProofs (disch := first | decide | assumption | omega | (simp -implicitDefEqProofs only [AM.RN]; first | done | omega) | fail) only [↓AM.R0, AM.R1, AM.R2, Nat.reduceAdd, Nat.reduceLeDiff, Nat.reduceEqDiff, Int.reduceToNat, Nat.reduceLT, ↓reduceIte, Int.reduceEq, Int.reduceLT, Int.reduceLE, d1, d2, g1, g2, x1, x2]
      subst hQ
      exact ⟨rfl, by rw [fiF, d0, Int.toNat_natCast]; rfl⟩
    · have d2 : decide ((n : Int) ≤ (a : Int)) = true := decide_eq_true (by omega)
      simp -implicitDefEqProofs (disch := first | decide | assumption | omega | (simp -implicitDefEqProofs only [AM.RN]; first | done | omega) | fail) only [↓AM.R0, AM.R1, AM.R2, Nat.reduceAdd, Nat.reduceLeDiff, Nat.reduceEqDiff, Int.reduceToNat, Nat.reduceLT, ↓reduceIte, Int.reduceEq, Int.reduceLT, Int.reduceLE, d1, d2, g1]
      subst hQ
      refine ⟨rfl, ?_⟩
      rw [fiF, Int.toNat_natCast, R.out a e, Bool.and_false]; rfl
def TurnF (n : Nat) (f g : Nat → Bool) (b m : Int) (u : Bool) (r : AVal) : Prop :=
  (inB n b m = true ∧ (∀ q : Nat, b ≤ q → (q : Int) < b + m → f q = u) ∧ (∀ q : Nat, g q = if b ≤ q ∧ (q : Int) < b + m then !u else f q) ∧ r = .int .i64 0) ∨
  (inB n b m = true ∧ (∃ q : Nat, b ≤ q ∧ (q : Int) < b + m ∧ f q = !u) ∧ g = f ∧ r = .int .i64 5) ∨ (inB n b m = false ∧ g = f ∧ r = .int .i64 1)
theorem TurnR.toF {n : Nat} {ws ws' : List Nat} {b m : Int} {u : Bool} {r : AVal} (h : TurnR n ws ws' b m u r) : TurnF n (fw ws) (fw ws') b m u r := by
  rcases h with ⟨a, c, d, e⟩ | ⟨a, c, d, e⟩ | ⟨a, d, e⟩
  · exact .inl ⟨a, c, d, e⟩
  · exact .inr (.inl ⟨a, c, by rw [d], e⟩)
  · exact .inr (.inr ⟨a, by rw [d], e⟩)
theorem TurnF.det {n : Nat} {f g g' : Nat → Bool} {b m : Int} {u : Bool} {r r' : AVal} (h : TurnF n f g b m u r) (h' : TurnF n f g' b m u r') : g = g' ∧ r = r' := by
  rcases h with ⟨a, c, d, e⟩ | ⟨a, ⟨q, c1, c2, c3⟩, d, e⟩ | ⟨a, d, e⟩ <;> rcases h' with ⟨a', c', d', e'⟩ | ⟨a', ⟨q', c1', c2', c3'⟩, d', e'⟩ | ⟨a', d', e'⟩
  · exact ⟨funext fun q => (d q).trans (d' q).symm, e.trans e'.symm⟩
  · rw [c q' c1' c2'] at c3'; cases u <;> cases c3'
  · rw [a] at a'; cases a'
  · rw [c' q c1 c2] at c3; cases u <;> cases c3
  · exact ⟨d.trans d'.symm, e.trans e'.symm⟩
  · rw [a] at a'; cases a'
  · rw [a] at a'; cases a'
  · rw [a] at a'; cases a'
  · exact ⟨d.trans d'.symm, e.trans e'.symm⟩
set_option maxHeartbeats 4000000 in
theorem rTurn {h : AHeap} {r b n : Nat} {f : Nat → Bool} (R : RefR h r b n f) (a m : Int) (u : Bool) : CallP AP 24 [.ptr r 0 0, .int .i64 a, .int .i64 m, .bool u] h fun v h' => ∃ g, HFrame h h' [b] [b] ∧ RefR h' r b n g ∧ TurnF n f g a m u v := by
  refine callP (rfl : Tr.get AP 24 = some A24) ?_
  generalize hQ : (fun (r : AVal) (h' : AHeap) => _) = Q
  have g1 := R.obj
  have g2 := R.bits
  have lr := R.lr
  have lb := R.lb
  have hn := R.n2
  have bad : inB n a m = false → Q (.int .i64 1) h := fun hi => by
    subst hQ
    exact ⟨f, HFrame.refl (by simpa using lb), R, .inr (.inr ⟨hi, rfl, rfl⟩)⟩
  have go : inB n a m = true ∨ inB n a m = false := by cases inB n a m <;> simp
  rcases Int.lt_or_le a 0 with c | c
  · have d1 : decide (a < 0) = true := decide_eq_true c
    simp -implicitDefEqProofs (disch := first | decide | assumption | omega | (simp -implicitDefEqProofs only [AM.RN]; first | done | omega) | fail) only [↓AM.R0, AM.R1, AM.R2, Nat.reduceAdd, Nat.reduceLeDiff, Nat.reduceEqDiff, Int.reduceToNat, Nat.reduceLT, ↓reduceIte, Int.reduceEq, Int.reduceLT, Int.reduceLE, d1]
    exact bad (by rw [← Bool.not_eq_true, inB_true]; omega)
  have d1 : decide (a < 0) = false := decide_eq_false (by omega)
  rcases Int.lt_or_le m 1 with e | e
  · have d2 : decide (m < 1) = true := decide_eq_true e
    simp -implicitDefEqProofs (disch := first | decide | assumption | omega | (simp -implicitDefEqProofs only [AM.RN]; first | done | omega) | fail) only [↓AM.R0, AM.R1, AM.R2, Nat.reduceAdd, Nat.reduceLeDiff, Nat.reduceEqDiff, Int.reduceToNat, Nat.reduceLT, ↓reduceIte, Int.reduceEq, Int.reduceLT, Int.reduceLE, d1, d2]
    exact bad (by rw [← Bool.not_eq_true, inB_true]; omega)
  have d2 : decide (m < 1) = false := decide_eq_false (by omega)
  rcases Int.lt_or_le a n with q | q
  rotate_left
  · have d3 : decide ((n : Int) ≤ a) = true := decide_eq_true q
    simp -implicitDefEqProofs (disch := first | decide | assumption | omega | (simp -implicitDefEqProofs only [AM.RN]; first | done | omega) | fail) only [↓AM.R0, AM.R1, AM.R2, Nat.reduceAdd, Nat.reduceLeDiff, Nat.reduceEqDiff, Int.reduceToNat, Nat.reduceLT, ↓reduceIte, Int.reduceEq, Int.reduceLT, Int.reduceLE, d1, d2, d3, g1]
    exact bad (by rw [← Bool.not_eq_true, inB_true]; omega)
  have d3 : decide ((n : Int) ≤ a) = false := decide_eq_false (by omega)
  have w1 : IntKind.i64.wrap ((n : Int) - a) = (n : Int) - a := wrap64 (by omega) (by omega)
  rcases Int.lt_or_le ((n : Int) - a) m with q2 | q2
  · have d4 : decide ((n : Int) - a < m) = true := decide_eq_true q2
    simp -implicitDefEqProofs (disch := first | decide | assumption | omega | (simp -implicitDefEqProofs only [AM.RN]; first | done | omega) | fail) only [↓AM.R0, AM.R1, AM.R2, Nat.reduceAdd, Nat.reduceLeDiff, Nat.reduceEqDiff, Int.reduceToNat, Nat.reduceLT, ↓reduceIte, Int.reduceEq, Int.reduceLT, Int.reduceLE, d1, d2, d3, d4, g1, w1]
    exact bad (by rw [← Bool.not_eq_true, inB_true]; omega)
  have d4 : decide ((n : Int) - a < m) = false := decide_eq_false (by omega)
  have hin : inB n a m = true := inB_true.2 ⟨by omega, by omega, by omega⟩
  clear bad go
  obtain ⟨a, rfl⟩ : ∃ x : Nat, a = x := ⟨a.toNat, by omega⟩
  obtain ⟨m, rfl⟩ : ∃ x : Nat, m = x := ⟨m.toNat, by omega⟩
  have w2 : IntKind.i64.wrap ((a : Int) + (m : Int)) = ((a + m : Nat) : Int) := (wrap64 (by omega) (by omega)).trans (by omega)
  simp -implicitDefEqProofs (disch := first | decide | assumption | omega | (simp -implicitDefEqProofs only [AM.RN]; first | done | omega) | fail) only [↓AM.R0, AM.R1, AM.R2, Nat.reduceAdd, Nat.reduceLeDiff, Nat.reduceEqDiff, Int.reduceToNat, Nat.reduceLT, ↓reduceIte, Int.reduceEq, Int.reduceLT, Int.reduceLE, d1, d2, d3, d4, g1, w1]
  refine AM.loopI_of (fun k e h' => ∃ (x : Nat), k + x = a + m ∧ a ≤ x ∧ h' = h ∧ e.val 0 = .ptr r 0 0 ∧ e.val 1 = .int .i64 (a : Int) ∧ e.val 2 = .int .i64 (m : Int) ∧ e.val 3 = .bool u ∧ e.val 9 = .int .i64 (x : Int) ∧ (∀ q : Nat, a ≤ q → q < x → f q = u)) m ?_ ?_
  · refine ⟨a, by omega, by omega, rfl, ?_, ?_, ?_, ?_, ?_, fun q h1 h2 => by omega⟩ <;> simp -implicitDefEqProofs (disch := first | decide | assumption | omega | (simp -implicitDefEqProofs only [AM.RN]; first | done | omega) | fail) only [↓AM.R0, AM.R1, AM.R2, Nat.reduceAdd, Nat.reduceLeDiff, Nat.reduceEqDiff, Int.reduceToNat, Nat.reduceLT, ↓reduceIte, Int.reduceEq, Int.reduceLT, Int.reduceLE]
  · rintro k e h' ⟨x, hk, hba, hh, e0, e1, e2, e3, e9, hf⟩
    rw [hh]
    simp -implicitDefEqProofs (disch := first | decide | assumption | omega | (simp -implicitDefEqProofs only [AM.RN]; first | done | omega) | fail) only [↓AM.R0, AM.R1, AM.R2, Nat.reduceAdd, Nat.reduceLeDiff, Nat.reduceEqDiff, Int.reduceToNat, Nat.reduceLT, ↓reduceIte, Int.reduceEq, Int.reduceLT, Int.reduceLE, e1, e2, e9, w2]
    refine AM.cI_bool (fun hc => ?_) (fun hc => ?_)
    · simp only [decide_eq_true_eq] at hc
      have x1 := ix1 g2 (len := n) (i := x) (by omega)
      have x2 := ub_at (f := f) (n := n) (q := x) (by omega)
      have w3 : IntKind.i64.wrap ((x : Int) + 1) = ((x + 1 : Nat) : Int) := (wrap64 (by omega) (by omega)).trans (by omega)
      simp -implicitDefEqProofs (disch := first | decide | assumption | omega | (simp -implicitDefEqProofs only [AM.RN]; first | done | omega) | fail) only [↓AM.R0, AM.R1, AM.R2, Nat.reduceAdd, Nat.reduceLeDiff, Nat.reduceEqDiff, Int.reduceToNat, Nat.reduceLT, ↓reduceIte, Int.reduceEq, Int.reduceLT, Int.reduceLE, e0, e3, e9, g1, g2, x1, x2]
      refine AM.cI_bool (fun hd => ?_) (fun hd => ?_)
      · have hd' : f x = !u := by cases hh : f x <;> cases u <;> simp_all
        simp -implicitDefEqProofs (disch := first | decide | assumption | omega | (simp -implicitDefEqProofs only [AM.RN]; first | done | omega) | fail) only [↓AM.R0, AM.R1, AM.R2, Nat.reduceAdd, Nat.reduceLeDiff, Nat.reduceEqDiff, Int.reduceToNat, Nat.reduceLT, ↓reduceIte, Int.reduceEq, Int.reduceLT, Int.reduceLE]
        subst hQ
        exact ⟨f, HFrame.refl (by simpa using lb), R, .inr (.inl ⟨hin, ⟨x, by omega, by omega, hd'⟩, rfl, rfl⟩)⟩
      · have hd' : f x = u := by cases hh : f x <;> cases u <;> simp_all
        simp -implicitDefEqProofs (disch := first | decide | assumption | omega | (simp -implicitDefEqProofs only [AM.RN]; first | done | omega) | fail) only [↓AM.R0, AM.R1, AM.R2, Nat.reduceAdd, Nat.reduceLeDiff, Nat.reduceEqDiff, Int.reduceToNat, Nat.reduceLT, ↓reduceIte, Int.reduceEq, Int.reduceLT, Int.reduceLE, e9, w3]
        refine ⟨k - 1, by omega, x + 1, by omega, by omega, e0, e1, e2, e3, rfl, fun q h1 h2 => ?_⟩
        rcases Nat.lt_or_ge q x with c | c
        · exact hf q h1 c
        · obtain rfl : q = x := by omega
          exact hd'
    · simp only [decide_eq_false_iff_not] at hc
      simp -implicitDefEqProofs (disch := first | decide | assumption | omega | (simp -implicitDefEqProofs only [AM.RN]; first | done | omega) | fail) only [↓AM.R0, AM.R1, AM.R2, Nat.reduceAdd, Nat.reduceLeDiff, Nat.reduceEqDiff, Int.reduceToNat, Nat.reduceLT, ↓reduceIte, Int.reduceEq, Int.reduceLT, Int.reduceLE, e0, e1, e2, e3]
      refine AM.callI_of (rSet R (a := a) (m := m) (by omega) u) ?_
      rintro v h5 ⟨f5, R5, rfl⟩
      simp -implicitDefEqProofs (disch := first | decide | assumption | omega | (simp -implicitDefEqProofs only [AM.RN]; first | done | omega) | fail) only [↓AM.R0, AM.R1, AM.R2, Nat.reduceAdd, Nat.reduceLeDiff, Nat.reduceEqDiff, Int.reduceToNat, Nat.reduceLT, ↓reduceIte, Int.reduceEq, Int.reduceLT, Int.reduceLE]
      subst hQ
      refine ⟨_, f5, R5, .inl ⟨hin, fun q h1 h2 => hf q (by omega) (by omega), fun q => ?_, rfl⟩⟩
      show (if a ≤ q ∧ q < a + m then !u else f q) = _
      by_cases c : a ≤ q ∧ q < a + m
      · rw [if_pos c, if_pos (by omega)]
      · rw [if_neg c, if_neg (by omega)]

theorem cnt_le {f : Nat → Bool} : ∀ j p, cntF f j p ≤ j
  | 0, p => Nat.le_refl _
  | j + 1, p => by
    rw [cntF]; split
    · have := cnt_le (f := f) j (p + 1); omega
    · omega
theorem cnt_row {f : Nat → Bool} : ∀ j p, Row f p (cntF f j p) ∧ (cntF f j p < j → f (p + cntF f j p) = false)
  | 0, p => ⟨fun t ht => by simp [cntF] at ht, fun h => by simp [cntF] at h⟩
  | j + 1, p => by
    rw [cntF]; split
    · rename_i h
      obtain ⟨h1, h2⟩ := cnt_row (f := f) j (p + 1)
      refine ⟨fun t ht => ?_, fun q => ?_⟩
      · rcases t with _ | t
        · exact h
        · have := h1 t (by omega); rwa [show p + (t + 1) = p + 1 + t by omega]
      · rw [show p + (cntF f j (p + 1) + 1) = p + 1 + cntF f j (p + 1) by omega]; exact h2 (by omega)
    · rename_i h
      exact ⟨fun t ht => by omega, fun _ => by simpa using h⟩
theorem cnt_spec {f : Nat → Bool} {n a : Nat} (ho : ∀ q, n ≤ q → f q = false) (ha : a ≤ n) : Row f a (cntF f (n - a) a) ∧ a + cntF f (n - a) a ≤ n ∧ f (a + cntF f (n - a) a) = false := by
  obtain ⟨h1, h2⟩ := cnt_row (f := f) (n - a) a
  have h3 := cnt_le (f := f) (n - a) a
  refine ⟨h1, by omega, ?_⟩
  rcases Nat.lt_or_ge (cntF f (n - a) a) (n - a) with c | c
  · exact h2 c
  · exact ho _ (by omega)
theorem cnt_max {f : Nat → Bool} {n a k : Nat} (ho : ∀ q, n ≤ q → f q = false) (ha : a ≤ n) (r : Row f a k) : k ≤ cntF f (n - a) a := by
  obtain ⟨h1, h2, h3⟩ := cnt_spec ho ha
  rcases Nat.lt_or_ge (cntF f (n - a) a) k with c | c
  · rw [r _ c] at h3; cases h3
  · exact c
def AllocF (f g : Nat → Bool) (k : Int) (r : AVal) : Prop :=
  (k < 1 ∧ g = f ∧ r = .tup [.int .i64 0, .int .i64 1]) ∨ (1 ≤ k ∧ (∀ q, ¬ Row f q k.toNat) ∧ g = f ∧ r = .tup [.int .i64 0, .int .i64 3]) ∨
  (1 ≤ k ∧ ∃ a : Nat, FirstAt f k.toNat a ∧ (∀ q : Nat, g q = if a ≤ q ∧ q < a + k.toNat then false else f q) ∧ r = .tup [.int .i64 (a : Int), .int .i64 0])
theorem AllocR.toF {ws ws' : List Nat} {k : Int} {r : AVal} (h : AllocR ws ws' k r) : AllocF (fw ws) (fw ws') k r := by
  rcases h with ⟨a, d, e⟩ | ⟨a, c, d, e⟩ | h
  · exact .inl ⟨a, by rw [d], e⟩
  · exact .inr (.inl ⟨a, c, by rw [d], e⟩)
  · exact .inr (.inr h)
theorem AllocF.det {f g g' : Nat → Bool} {k : Int} {r r' : AVal} (h : AllocF f g k r) (h' : AllocF f g' k r') : g = g' ∧ r = r' := by
  rcases h with ⟨a, d, e⟩ | ⟨a, c, d, e⟩ | ⟨a, x, c, d, e⟩ <;> rcases h' with ⟨a', d', e'⟩ | ⟨a', c', d', e'⟩ | ⟨a', x', c', d', e'⟩ <;> first | omega | skip
  · exact ⟨d.trans d'.symm, e.trans e'.symm⟩
  · exact ⟨d.trans d'.symm, e.trans e'.symm⟩
  · exact absurd c'.1 (c _)
  · exact absurd c.1 (c' _)
  · have h1 := c.le c'.1
    have h2 := c'.le c.1
    obtain rfl : x = x' := by omega
    exact ⟨funext fun q => (d q).trans (d' q).symm, e.trans e'.symm⟩
set_option maxHeartbeats 4000000 in
theorem rAlloc {h : AHeap} {r b n : Nat} {f : Nat → Bool} (R : RefR h r b n f) (k : Int) : CallP AP 23 [.ptr r 0 0, .int .i64 k] h fun v h' => ∃ g, HFrame h h' [b] [b] ∧ RefR h' r b n g ∧ AllocF f g k v := by
  refine callP (rfl : Tr.get AP 23 = some A23) ?_
  generalize hQ : (fun (r : AVal) (h' : AHeap) => _) = Q
  have g1 := R.obj
  have g2 := R.bits
  have lr := R.lr
  have lb := R.lb
  have hn := R.n2
  simp -implicitDefEqProofs (disch := first | decide | assumption | omega | (simp -implicitDefEqProofs only [AM.RN]; first | done | omega) | fail) only [↓AM.R0, AM.R1, AM.R2, Nat.reduceAdd, Nat.reduceLeDiff, Nat.reduceEqDiff, Int.reduceToNat, Nat.reduceLT, ↓reduceIte, Int.reduceEq, Int.reduceLT, Int.reduceLE]
  refine AM.cI_bool (fun hb => ?_) (fun hb => ?_)
  · simp only [decide_eq_true_eq] at hb
    simp -implicitDefEqProofs (disch := first | decide | assumption | omega | (simp -implicitDefEqProofs only [AM.RN]; first | done | omega) | fail) only [↓AM.R0, AM.R1, AM.R2, Nat.reduceAdd, Nat.reduceLeDiff, Nat.reduceEqDiff, Int.reduceToNat, Nat.reduceLT, ↓reduceIte, Int.reduceEq, Int.reduceLT, Int.reduceLE]
    subst hQ
    exact ⟨f, HFrame.refl (by simpa using lb), R, .inl ⟨hb, rfl, rfl⟩⟩
  simp only [decide_eq_false_iff_not] at hb
  obtain ⟨m, rfl⟩ : ∃ a : Nat, k = a := ⟨k.toNat, by omega⟩
  simp -implicitDefEqProofs (disch := first | decide | assumption | omega | (simp -implicitDefEqProofs only [AM.RN]; first | done | omega) | fail) only [↓AM.R0, AM.R1, AM.R2, Nat.reduceAdd, Nat.reduceLeDiff, Nat.reduceEqDiff, Int.reduceToNat, Nat.reduceLT, ↓reduceIte, Int.reduceEq, Int.reduceLT, Int.reduceLE]
  refine AM.loopI_of (fun k e h' => ∃ x : Nat, n + 1 ≤ x + k ∧ x ≤ n + 1 ∧ h' = h ∧ e.val 0 = .ptr r 0 0 ∧ e.val 1 = .int .i64 (m : Int) ∧ e.val 6 = .int .i64 (x : Int) ∧ ∀ q, q < x → ¬ Row f q m) (n + 1) ?_ ?_
  · refine ⟨0, by omega, by omega, rfl, ?_, ?_, ?_, fun q hq => by omega⟩ <;> simp -implicitDefEqProofs (disch := first | decide | assumption | omega | (simp -implicitDefEqProofs only [AM.RN]; first | done | omega) | fail) only [↓AM.R0, AM.R1, AM.R2, Nat.reduceAdd, Nat.reduceLeDiff, Nat.reduceEqDiff, Int.reduceToNat, Nat.reduceLT, ↓reduceIte, Int.reduceEq, Int.reduceLT, Int.reduceLE] <;> rfl
  · rintro k e h' ⟨x, hk, hx, hh, e0, e1, e6, hno⟩
    rw [hh]
    simp -implicitDefEqProofs (disch := first | decide | assumption | omega | (simp -implicitDefEqProofs only [AM.RN]; first | done | omega) | fail) only [↓AM.R0, AM.R1, AM.R2, Nat.reduceAdd, Nat.reduceLeDiff, Nat.reduceEqDiff, Int.reduceToNat, Nat.reduceLT, ↓reduceIte, Int.reduceEq, Int.reduceLT, Int.reduceLE, e0, e6, g1]
    refine AM.cI_bool (fun hc => ?_) (fun hc => ?_)
    · simp only [decide_eq_true_eq] at hc
      have hxn : x < n := by omega
      obtain ⟨c1, c2, c3⟩ := cnt_spec R.out (a := x) (by omega)
      have cm := fun k => cnt_max (k := k) R.out (a := x) (by omega)
      simp -implicitDefEqProofs (disch := first | decide | assumption | omega | (simp -implicitDefEqProofs only [AM.RN]; first | done | omega) | fail) only [↓AM.R0, AM.R1, AM.R2, Nat.reduceAdd, Nat.reduceLeDiff, Nat.reduceEqDiff, Int.reduceToNat, Nat.reduceLT, ↓reduceIte, Int.reduceEq, Int.reduceLT, Int.reduceLE, e0, e6]
      refine AM.callI_of (rRun R (a := x) (by omega)) ?_
      rintro v h2 ⟨rfl, rfl⟩
      generalize cntF f (n - x) x = c at *
      simp -implicitDefEqProofs (disch := first | decide | assumption | omega | (simp -implicitDefEqProofs only [AM.RN]; first | done | omega) | fail) only [↓AM.R0, AM.R1, AM.R2, Nat.reduceAdd, Nat.reduceLeDiff, Nat.reduceEqDiff, Int.reduceToNat, Nat.reduceLT, ↓reduceIte, Int.reduceEq, Int.reduceLT, Int.reduceLE, e1]
      refine AM.cI_bool (fun hd => ?_) (fun hd => ?_)
      · have hd' : m ≤ c := by simp only [decide_eq_true_eq] at hd; omega
        simp -implicitDefEqProofs (disch := first | decide | assumption | omega | (simp -implicitDefEqProofs only [AM.RN]; first | done | omega) | fail) only [↓AM.R0, AM.R1, AM.R2, Nat.reduceAdd, Nat.reduceLeDiff, Nat.reduceEqDiff, Int.reduceToNat, Nat.reduceLT, ↓reduceIte, Int.reduceEq, Int.reduceLT, Int.reduceLE, e0, e1, e6]
        refine AM.callI_of (rSet R (a := x) (m := m) (by omega) true) ?_
        rintro v h5 ⟨f5, R5, rfl⟩
        simp -implicitDefEqProofs (disch := first | decide | assumption | omega | (simp -implicitDefEqProofs only [AM.RN]; first | done | omega) | fail) only [↓AM.R0, AM.R1, AM.R2, Nat.reduceAdd, Nat.reduceLeDiff, Nat.reduceEqDiff, Int.reduceToNat, Nat.reduceLT, ↓reduceIte, Int.reduceEq, Int.reduceLT, Int.reduceLE, e6]
        subst hQ
        refine ⟨_, f5, R5, .inr (.inr ⟨by omega, x, ⟨?_, ?_⟩, fun q => ?_, rfl⟩)⟩
        · rw [Int.toNat_natCast]; exact c1.sub (Nat.le_refl _) (by omega)
        · rw [Int.toNat_natCast]; exact hno
        · rw [Int.toNat_natCast]; rfl
      · have hd' : c < m := by simp only [decide_eq_false_iff_not] at hd; omega
        have w1 : IntKind.i64.wrap ((x : Int) + (c : Int)) = ((x + c : Nat) : Int) := (wrap64 (by omega) (by omega)).trans (by omega)
        have w2 : IntKind.i64.wrap (((x + c : Nat) : Int) + 1) = ((x + c + 1 : Nat) : Int) := (wrap64 (by omega) (by omega)).trans (by omega)
        simp -implicitDefEqProofs (disch := first | decide | assumption | omega | (simp -implicitDefEqProofs only [AM.RN]; first | done | omega) | fail) only [↓AM.R0, AM.R1, AM.R2, Nat.reduceAdd, Nat.reduceLeDiff, Nat.reduceEqDiff, Int.reduceToNat, Nat.reduceLT, ↓reduceIte, Int.reduceEq, Int.reduceLT, Int.reduceLE, e6, w1, w2]
        refine ⟨k - 1, by omega, x + c + 1, by omega, by omega, e0, e1, rfl, fun q hq hr => ?_⟩
        rcases Nat.lt_or_ge q x with q1 | q1
        · exact hno q q1 hr
        · have := hr (x + c - q) (by omega)
          rw [show q + (x + c - q) = x + c by omega, c3] at this
          cases this
    · simp only [decide_eq_false_iff_not] at hc
      simp -implicitDefEqProofs (disch := first | decide | assumption | omega | (simp -implicitDefEqProofs only [AM.RN]; first | done | omega) | fail) only [↓AM.R0, AM.R1, AM.R2, Nat.reduceAdd, Nat.reduceLeDiff, Nat.reduceEqDiff, Int.reduceToNat, Nat.reduceLT, ↓reduceIte, Int.reduceEq, Int.reduceLT, Int.reduceLE]
      subst hQ
      refine ⟨f, HFrame.refl (by simpa using lb), R, .inr (.inl ⟨by omega, fun q => ?_, rfl, rfl⟩)⟩
      rw [Int.toNat_natCast]
      intro hr
      rcases Nat.lt_or_ge q x with q1 | q1
      · exact hno q q1 hr
      · have := hr 0 (by omega)
        rw [R.out _ (by omega)] at this; cases this
end Go.Proofs.YthillgheddpmhaaDoor.Pg

namespace Go.Proofs.YthillgheddpmhaaDoor.Pg
open Go Go.AM Go.Proofs.YthillgheddpmhaaDoor.AmGL
attribute [local irreducible] AM.wp AM.wpIs AM.wpTr AM.opI AM.gI AM.cI AM.trI AM.callI AM.fnI AM.yldI AM.rangeI AM.rangeC AM.YldP AM.asgQ AM.roundQ AM.rangeQ AM.trG AM.trOp AM.trCall AM.seqC AM.loopI
set_option maxRecDepth 100000
set_option linter.unusedVariables false
set_option linter.unusedSimpArgs false

def freeN (f : Nat → Bool) : Nat → Nat
  | 0 => 0
  | x + 1 => freeN f x + if f x = true then 1 else 0
theorem freeN_row {f : Nat → Bool} : ∀ (c p : Nat), Row f p c → freeN f (p + c) = freeN f p + c
  | 0, p, _ => rfl
  | c + 1, p, r => by
    rw [show p + (c + 1) = (p + c) + 1 by omega, freeN, freeN_row c p (r.sub (Nat.le_refl _) (by omega)), if_pos (r c (by omega))]; omega
theorem freeN_out {f : Nat → Bool} {n : Nat} (ho : ∀ q, n ≤ q → f q = false) : ∀ k, freeN f (n + k) = freeN f n
  | 0 => rfl
  | k + 1 => by rw [show n + (k + 1) = (n + k) + 1 by omega, freeN, freeN_out ho k, ho _ (by omega)]; rfl
theorem sum_free {f : Nat → Bool} {n : Nat} (ho : ∀ q, n ≤ q → f q = false) : ∀ k p, n ≤ p + k → sumR (rowsF f n k p) + freeN f p = freeN f n
  | 0, p, h => by
    obtain ⟨j, rfl⟩ : ∃ j, p = n + j := ⟨p - n, by omega⟩
    rw [freeN_out ho]; simp [rowsF, sumR]
  | k + 1, p, h => by
    rw [rowsF]
    split
    · rename_i hp
      obtain ⟨c1, c2, c3⟩ := cnt_spec ho (a := p) (by omega)
      have ih := sum_free ho k (p + cntF f (n - p) p + 1) (by omega)
      rw [freeN, freeN_row _ _ c1, c3] at ih
      simp only [Bool.false_eq_true, if_false, Nat.add_zero] at ih
      split
      · simp only [List.cons_append, List.nil_append]
        have : sumR ((p, cntF f (n - p) p) :: rowsF f n k (p + cntF f (n - p) p + 1)) = cntF f (n - p) p + sumR (rowsF f n k (p + cntF f (n - p) p + 1)) := by simp [sumR]
        rw [this]; omega
      · rw [List.nil_append]; omega
    · rename_i hp
      obtain ⟨j, rfl⟩ : ∃ j, p = n + j := ⟨p - n, by omega⟩
      rw [freeN_out ho]; simp [sumR]
/-- The longest row. -/
def IsMost (f : Nat → Bool) (m : Nat) : Prop := (∀ p k, Row f p k → k ≤ m) ∧ ∃ p, Row f p m
theorem IsMost.uniq {f : Nat → Bool} {m m' : Nat} (a : IsMost f m) (b : IsMost f m') : m = m' := by
  obtain ⟨p, hp⟩ := a.2
  obtain ⟨q, hq⟩ := b.2
  have := a.1 _ _ hq
  have := b.1 _ _ hp
  omega
theorem IsSum.most {f : Nat → Bool} {M : Nat} {x : Sm} (H : IsSum f 0 M x) (ho : ∀ q, M ≤ q → f q = false) : IsMost f x.m := by
  obtain ⟨p, h1, h2, h3⟩ := H.m1
  refine ⟨fun q k r => ?_, p, h3⟩
  rcases Nat.lt_or_ge k 1 with c | c
  · omega
  · have h4 := r (k - 1) (by omega)
    rcases Nat.lt_or_ge (q + (k - 1)) M with c2 | c2
    · exact H.m2 q k (by omega) (by omega) r
    · rw [ho _ c2] at h4; cases h4
set_option maxHeartbeats 4000000 in
theorem rCounts {h : AHeap} {r b n : Nat} {f : Nat → Bool} (R : RefR h r b n f) : CallP AP 25 [.ptr r 0 0] h fun v h' => h' = h ∧ ∃ m, IsMost f m ∧ v = .tup [.int .i64 (freeN f n : Nat), .int .i64 (m : Int)] := by
  refine callP (rfl : Tr.get AP 25 = some A25) ?_
  generalize hQ : (fun (r : AVal) (h' : AHeap) => _) = Q
  have g1 := R.obj
  have g2 := R.bits
  have lr := R.lr
  have lb := R.lb
  have hn := R.n2
  simp -implicitDefEqProofs (disch := first | decide | assumption | omega | (simp -implicitDefEqProofs only [AM.RN]; first | done | omega) | fail) only [↓AM.R0, AM.R1, AM.R2, Nat.reduceAdd, Nat.reduceLeDiff, Nat.reduceEqDiff, Int.reduceToNat, Nat.reduceLT, ↓reduceIte, Int.reduceEq, Int.reduceLT, Int.reduceLE]
  refine AM.loopI_of (fun k e h' => ∃ x fr mo : Nat, k + x = n ∧ h' = h ∧ e.val 0 = .ptr r 0 0 ∧ e.val 4 = .int .i64 (fr : Int) ∧ e.val 5 = .int .i64 (mo : Int) ∧ e.val 6 = .int .i64 (x : Int) ∧ fr = freeN f x ∧ fr ≤ x ∧ mo ≤ n ∧ (∀ p k, p < x → Row f p k → k ≤ mo) ∧ ∃ p, Row f p mo) n ?_ ?_
  · refine ⟨0, 0, 0, by omega, rfl, ?_, ?_, ?_, ?_, rfl, by omega, by omega, fun p k h => by omega, 0, fun t ht => by omega⟩ <;> simp -implicitDefEqProofs (disch := first | decide | assumption | omega | (simp -implicitDefEqProofs only [AM.RN]; first | done | omega) | fail) only [↓AM.R0, AM.R1, AM.R2, Nat.reduceAdd, Nat.reduceLeDiff, Nat.reduceEqDiff, Int.reduceToNat, Nat.reduceLT, ↓reduceIte, Int.reduceEq, Int.reduceLT, Int.reduceLE] <;> rfl
  · rintro k e h' ⟨x, fr, mo, hk, hh, e0, e4, e5, e6, hfr, hfx, hmn, hall, hex⟩
    rw [hh]
    simp -implicitDefEqProofs (disch := first | decide | assumption | omega | (simp -implicitDefEqProofs only [AM.RN]; first | done | omega) | fail) only [↓AM.R0, AM.R1, AM.R2, Nat.reduceAdd, Nat.reduceLeDiff, Nat.reduceEqDiff, Int.reduceToNat, Nat.reduceLT, ↓reduceIte, Int.reduceEq, Int.reduceLT, Int.reduceLE, e0, e6, g1]
    refine AM.cI_bool (fun hc => ?_) (fun hc => ?_)
    · simp only [decide_eq_true_eq] at hc
      have hxn : x < n := by omega
      have x1 := ix1 g2 (len := n) (i := x) hxn
      have x2 := ub_at (f := f) hxn
      obtain ⟨c1, c2, c3⟩ := cnt_spec R.out (a := x) (by omega)
      have cm := fun k => cnt_max (k := k) R.out (a := x) (by omega)
      have w1 : IntKind.i64.wrap ((x : Int) + 1) = ((x + 1 : Nat) : Int) := (wrap64 (by omega) (by omega)).trans (by omega)
      have w2 : IntKind.i64.wrap ((fr : Int) + 1) = ((fr + 1 : Nat) : Int) := (wrap64 (by omega) (by omega)).trans (by omega)
      simp -implicitDefEqProofs (disch := first | decide | assumption | omega | (simp -implicitDefEqProofs only [AM.RN]; first | done | omega) | fail) only [↓AM.R0, AM.R1, AM.R2, Nat.reduceAdd, Nat.reduceLeDiff, Nat.reduceEqDiff, Int.reduceToNat, Nat.reduceLT, ↓reduceIte, Int.reduceEq, Int.reduceLT, Int.reduceLE, e0, e6, g1, g2, x1, x2]
      rw [Bool.not_not]
      refine AM.cI_bool (fun hd => ?_) (fun hd => ?_)
      · simp -implicitDefEqProofs (disch := first | decide | assumption | omega | (simp -implicitDefEqProofs only [AM.RN]; first | done | omega) | fail) only [↓AM.R0, AM.R1, AM.R2, Nat.reduceAdd, Nat.reduceLeDiff, Nat.reduceEqDiff, Int.reduceToNat, Nat.reduceLT, ↓reduceIte, Int.reduceEq, Int.reduceLT, Int.reduceLE, e0, e4, e6, w2]
        refine AM.callI_of (rRun R (a := x) (by omega)) ?_
        rintro v h2 ⟨rfl, rfl⟩
        generalize cntF f (n - x) x = c at *
        simp -implicitDefEqProofs (disch := first | decide | assumption | omega | (simp -implicitDefEqProofs only [AM.RN]; first | done | omega) | fail) only [↓AM.R0, AM.R1, AM.R2, Nat.reduceAdd, Nat.reduceLeDiff, Nat.reduceEqDiff, Int.reduceToNat, Nat.reduceLT, ↓reduceIte, Int.reduceEq, Int.reduceLT, Int.reduceLE, e5]
        refine AM.cI_bool (fun hg => ?_) (fun hg => ?_)
        · simp only [decide_eq_true_eq] at hg
          simp -implicitDefEqProofs (disch := first | decide | assumption | omega | (simp -implicitDefEqProofs only [AM.RN]; first | done | omega) | fail) only [↓AM.R0, AM.R1, AM.R2, Nat.reduceAdd, Nat.reduceLeDiff, Nat.reduceEqDiff, Int.reduceToNat, Nat.reduceLT, ↓reduceIte, Int.reduceEq, Int.reduceLT, Int.reduceLE, e6, w1]
          refine ⟨k - 1, by omega, x + 1, fr + 1, c, by omega, e0, rfl, rfl, rfl, by rw [freeN, if_pos hd, hfr], by omega, by omega, fun p k hp hr => ?_, x, c1⟩
          rcases Nat.lt_or_ge p x with q | q
          · have := hall p k q hr; omega
          · obtain rfl : p = x := by omega
            exact cm k hr
        · simp only [decide_eq_false_iff_not] at hg
          simp -implicitDefEqProofs (disch := first | decide | assumption | omega | (simp -implicitDefEqProofs only [AM.RN]; first | done | omega) | fail) only [↓AM.R0, AM.R1, AM.R2, Nat.reduceAdd, Nat.reduceLeDiff, Nat.reduceEqDiff, Int.reduceToNat, Nat.reduceLT, ↓reduceIte, Int.reduceEq, Int.reduceLT, Int.reduceLE, e6, w1]
          refine ⟨k - 1, by omega, x + 1, fr + 1, mo, by omega, e0, rfl, e5, rfl, by rw [freeN, if_pos hd, hfr], by omega, by omega, fun p k hp hr => ?_, hex⟩
          rcases Nat.lt_or_ge p x with q | q
          · exact hall p k q hr
          · obtain rfl : p = x := by omega
            have := cm k hr; omega
      · simp -implicitDefEqProofs (disch := first | decide | assumption | omega | (simp -implicitDefEqProofs only [AM.RN]; first | done | omega) | fail) only [↓AM.R0, AM.R1, AM.R2, Nat.reduceAdd, Nat.reduceLeDiff, Nat.reduceEqDiff, Int.reduceToNat, Nat.reduceLT, ↓reduceIte, Int.reduceEq, Int.reduceLT, Int.reduceLE, e6, w1]
        refine ⟨k - 1, by omega, x + 1, fr, mo, by omega, e0, e4, e5, rfl, by rw [freeN, hd, hfr]; rfl, by omega, by omega, fun p k hp hr => ?_, hex⟩
        rcases Nat.lt_or_ge p x with q | q
        · exact hall p k q hr
        · obtain rfl : p = x := by omega
          rcases Nat.lt_or_ge k 1 with c | c
          · omega
          · have := hr 0 (by omega)
            rw [Nat.add_zero, hd] at this; cases this
    · simp only [decide_eq_false_iff_not] at hc
      obtain rfl : x = n := by omega
      simp -implicitDefEqProofs (disch := first | decide | assumption | omega | (simp -implicitDefEqProofs only [AM.RN]; first | done | omega) | fail) only [↓AM.R0, AM.R1, AM.R2, Nat.reduceAdd, Nat.reduceLeDiff, Nat.reduceEqDiff, Int.reduceToNat, Nat.reduceLT, ↓reduceIte, Int.reduceEq, Int.reduceLT, Int.reduceLE, e4, e5]
      subst hQ
      refine ⟨rfl, mo, ⟨fun p k hr => ?_, hex⟩, by rw [hfr]⟩
      rcases Nat.lt_or_ge p x with q | q
      · exact hall p k q hr
      · rcases Nat.lt_or_ge k 1 with c | c
        · omega
        · have := hr 0 (by omega)
          rw [R.out _ (by omega)] at this; cases this
def encP (x : Nat × Nat) : List AVal := [.int .i64 (x.1 : Int), .int .i64 (x.2 : Int)]
theorem rows_len {f : Nat → Bool} {n : Nat} : ∀ k p, (rowsF f n k p).length ≤ k
  | 0, p => Nat.le_refl _
  | k + 1, p => by
    rw [rowsF]
    have := rows_len (f := f) (n := n) k (p + cntF f (n - p) p + 1)
    split
    · split <;> simp <;> omega
    · simp
set_option maxHeartbeats 4000000 in
theorem rRuns {h : AHeap} {r b n : Nat} {f : Nat → Bool} (R : RefR h r b n f) : CallP AP 29 [.ptr r 0 0] h fun v h' => ∃ G, HFrame h h' [] G ∧ SlOf h' 2 encP v (rowsF f n n 0) G := by
  refine callP (rfl : Tr.get AP 29 = some A29) ?_
  generalize hQ : (fun (r : AVal) (h' : AHeap) => _) = Q
  simp -implicitDefEqProofs (disch := first | decide | assumption | omega | (simp -implicitDefEqProofs only [AM.RN]; first | done | omega) | fail) only [↓AM.R0, AM.R1, AM.R2, Nat.reduceAdd, Nat.reduceLeDiff, Nat.reduceEqDiff, Int.reduceToNat, Nat.reduceLT, ↓reduceIte, Int.reduceEq, Int.reduceLT, Int.reduceLE]
  refine AM.loopI_of (fun k e h' => ∃ (x : Nat) (l : List (Nat × Nat)) (sv : AVal) (G : List Nat), n ≤ x + k ∧ x ≤ n + 1 ∧ e.val 0 = .ptr r 0 0 ∧ e.val 3 = sv ∧ e.val 4 = .int .i64 (x : Int) ∧ HFrame h h' [] G ∧ SlOf h' 2 encP sv l G ∧ rowsF f n n 0 = l ++ rowsF f n k x) n ?_ ?_
  · refine ⟨0, [], .nils, [], by omega, by omega, ?_, ?_, ?_, HFrame.refl (by simp), SlOf.nil, rfl⟩ <;> simp -implicitDefEqProofs (disch := first | decide | assumption | omega | (simp -implicitDefEqProofs only [AM.RN]; first | done | omega) | fail) only [↓AM.R0, AM.R1, AM.R2, Nat.reduceAdd, Nat.reduceLeDiff, Nat.reduceEqDiff, Int.reduceToNat, Nat.reduceLT, ↓reduceIte, Int.reduceEq, Int.reduceLT, Int.reduceLE] <;> rfl
  · rintro k e h' ⟨x, l, sv, G, hk, hx, e0, e3, e4, F, so, hR⟩
    have R' := R.keepD F (by simp) (by simp)
    have g1 := R'.obj
    have lr := R'.lr
    have hn := R'.n2
    simp -implicitDefEqProofs (disch := first | decide | assumption | omega | (simp -implicitDefEqProofs only [AM.RN]; first | done | omega) | fail) only [↓AM.R0, AM.R1, AM.R2, Nat.reduceAdd, Nat.reduceLeDiff, Nat.reduceEqDiff, Int.reduceToNat, Nat.reduceLT, ↓reduceIte, Int.reduceEq, Int.reduceLT, Int.reduceLE, e0, e4, g1]
    refine AM.cI_bool (fun hc => ?_) (fun hc => ?_)
    · simp only [decide_eq_true_eq] at hc
      have hxn : x < n := by omega
      obtain ⟨k, rfl⟩ : ∃ j, k = j + 1 := ⟨k - 1, by omega⟩
      obtain ⟨c1, c2, c3⟩ := cnt_spec R.out (a := x) (by omega)
      have hll : l.length ≤ n := by
        have := rows_len (f := f) (n := n) n 0
        rw [hR, List.length_append] at this; omega
      rw [rowsF, if_pos hxn] at hR
      simp -implicitDefEqProofs (disch := first | decide | assumption | omega | (simp -implicitDefEqProofs only [AM.RN]; first | done | omega) | fail) only [↓AM.R0, AM.R1, AM.R2, Nat.reduceAdd, Nat.reduceLeDiff, Nat.reduceEqDiff, Int.reduceToNat, Nat.reduceLT, ↓reduceIte, Int.reduceEq, Int.reduceLT, Int.reduceLE, e0, e4]
      refine AM.callI_of (rRun R' (a := x) (by omega)) ?_
      rintro v h2 ⟨rfl, rfl⟩
      generalize cntF f (n - x) x = c at *
      have dd : decide ((0 : Int) < (c : Int)) = decide (0 < c) := decide_eq_decide.2 (by omega)
      have w1 : IntKind.i64.wrap ((x : Int) + (c : Int)) = ((x + c : Nat) : Int) := (wrap64 (by omega) (by omega)).trans (by omega)
      have w2 : IntKind.i64.wrap (((x + c : Nat) : Int) + 1) = ((x + c + 1 : Nat) : Int) := (wrap64 (by omega) (by omega)).trans (by omega)
      simp -implicitDefEqProofs (disch := first | decide | assumption | omega | (simp -implicitDefEqProofs only [AM.RN]; first | done | omega) | fail) only [↓AM.R0, AM.R1, AM.R2, Nat.reduceAdd, Nat.reduceLeDiff, Nat.reduceEqDiff, Int.reduceToNat, Nat.reduceLT, ↓reduceIte, Int.reduceEq, Int.reduceLT, Int.reduceLE]
      rw [dd]
      refine AM.cI_bool (fun hd => ?_) (fun hd => ?_)
      · have hd' : 0 < c := of_decide_eq_true hd
        rw [if_pos hd', List.cons_append, List.nil_append] at hR
        simp -implicitDefEqProofs (disch := first | decide | assumption | omega | (simp -implicitDefEqProofs only [AM.RN]; first | done | omega) | fail) only [↓AM.R0, AM.R1, AM.R2, Nat.reduceAdd, Nat.reduceLeDiff, Nat.reduceEqDiff, Int.reduceToNat, Nat.reduceLT, ↓reduceIte, Int.reduceEq, Int.reduceLT, Int.reduceLE, e3, e4]
        refine AM.opI_of (SlOf.app1 so (fun _ => rfl) (fun _ => rfl) (by omega) (x, c) fun sw h7 H7 so7 f7 => ?_)
        simp -implicitDefEqProofs (disch := first | decide | assumption | omega | (simp -implicitDefEqProofs only [AM.RN]; first | done | omega) | fail) only [↓AM.R0, AM.R1, AM.R2, Nat.reduceAdd, Nat.reduceLeDiff, Nat.reduceEqDiff, Int.reduceToNat, Nat.reduceLT, ↓reduceIte, Int.reduceEq, Int.reduceLT, Int.reduceLE, e4, w1, w2]
        exact ⟨k, by omega, x + c + 1, l ++ [(x, c)], sw, H7, by omega, by omega, e0, rfl, rfl, F.trans f7, so7, by rw [hR, List.append_assoc]; rfl⟩
      · have hd' : ¬ 0 < c := of_decide_eq_false hd
        obtain rfl : c = 0 := by omega
        rw [if_neg hd', List.nil_append] at hR
        have w3 : IntKind.i64.wrap ((x : Int) + 1) = ((x + 1 : Nat) : Int) := (wrap64 (by omega) (by omega)).trans (by omega)
        simp -implicitDefEqProofs (disch := first | decide | assumption | omega | (simp -implicitDefEqProofs only [AM.RN]; first | done | omega) | fail) only [↓AM.R0, AM.R1, AM.R2, Nat.reduceAdd, Nat.reduceLeDiff, Nat.reduceEqDiff, Int.reduceToNat, Nat.reduceLT, ↓reduceIte, Int.reduceEq, Int.reduceLT, Int.reduceLE, e4, w3]
        exact ⟨k, by omega, x + 1, l, sv, G, by omega, by omega, e0, e3, rfl, F, so, hR⟩
    · simp only [decide_eq_false_iff_not] at hc
      have hz : rowsF f n k x = [] := by
        cases k with
        | zero => rfl
        | succ k => rw [rowsF, if_neg (by omega)]
      rw [hz, List.append_nil] at hR
      simp -implicitDefEqProofs (disch := first | decide | assumption | omega | (simp -implicitDefEqProofs only [AM.RN]; first | done | omega) | fail) only [↓AM.R0, AM.R1, AM.R2, Nat.reduceAdd, Nat.reduceLeDiff, Nat.reduceEqDiff, Int.reduceToNat, Nat.reduceLT, ↓reduceIte, Int.reduceEq, Int.reduceLT, Int.reduceLE, e3]
      subst hQ
      exact ⟨G, F, hR ▸ so⟩
set_option maxHeartbeats 4000000 in
theorem rSame {h : AHeap} {v w : AVal} {l : List (Nat × Nat)} (sv : SlRd h 2 encP v l) (sw : SlRd h 2 encP w l) (hl : l.length ≤ 1000000) : CallP AP 28 [v, w] h fun r h' => h' = h ∧ r = .bool true := by
  refine callP (rfl : Tr.get AP 28 = some A28) ?_
  generalize hQ : (fun (r : AVal) (h' : AHeap) => _) = Q
  simp -implicitDefEqProofs (disch := first | decide | assumption | omega | (simp -implicitDefEqProofs only [AM.RN]; first | done | omega) | fail) only [↓AM.R0, AM.R1, AM.R2, Nat.reduceAdd, Nat.reduceLeDiff, Nat.reduceEqDiff, Int.reduceToNat, Nat.reduceLT, ↓reduceIte, Int.reduceEq, Int.reduceLT, Int.reduceLE, sv.len, sw.len]
  refine AM.loopI_of (fun k e h' => ∃ i : Nat, k + i = l.length ∧ h' = h ∧ e.val 0 = v ∧ e.val 1 = w ∧ e.val 5 = .int .i64 (i : Int)) l.length ?_ ?_
  · refine ⟨0, by omega, rfl, ?_, ?_, ?_⟩ <;> simp -implicitDefEqProofs (disch := first | decide | assumption | omega | (simp -implicitDefEqProofs only [AM.RN]; first | done | omega) | fail) only [↓AM.R0, AM.R1, AM.R2, Nat.reduceAdd, Nat.reduceLeDiff, Nat.reduceEqDiff, Int.reduceToNat, Nat.reduceLT, ↓reduceIte, Int.reduceEq, Int.reduceLT, Int.reduceLE] <;> rfl
  · rintro k e h' ⟨i, hk, hh, e0, e1, e5⟩
    rw [hh]
    simp -implicitDefEqProofs (disch := first | decide | assumption | omega | (simp -implicitDefEqProofs only [AM.RN]; first | done | omega) | fail) only [↓AM.R0, AM.R1, AM.R2, Nat.reduceAdd, Nat.reduceLeDiff, Nat.reduceEqDiff, Int.reduceToNat, Nat.reduceLT, ↓reduceIte, Int.reduceEq, Int.reduceLT, Int.reduceLE, e0, e5, sv.len]
    refine AM.cI_bool (fun hc => ?_) (fun hc => ?_)
    · simp only [decide_eq_true_eq] at hc
      obtain ⟨x, hx⟩ : ∃ x, l[i]? = some x := ⟨_, List.getElem?_eq_getElem (by omega)⟩
      obtain ⟨id, g, off, vs, ro, y1, y2, y3, y4, y5⟩ := sv.ix (fun _ => rfl) hx .i64
      obtain ⟨id', g', off', vs', ro', z1, z2, z3, z4, z5⟩ := sw.ix (fun _ => rfl) hx .i64
      have w1 : IntKind.i64.wrap ((i : Int) + 1) = ((i + 1 : Nat) : Int) := (wrap64 (by omega) (by omega)).trans (by omega)
      simp -implicitDefEqProofs (disch := first | decide | assumption | omega | (simp -implicitDefEqProofs only [AM.RN]; first | done | omega) | fail) only [↓AM.R0, AM.R1, AM.R2, Nat.reduceAdd, Nat.reduceLeDiff, Nat.reduceEqDiff, Int.reduceToNat, Nat.reduceLT, ↓reduceIte, Int.reduceEq, Int.reduceLT, Int.reduceLE, e0, e1, e5, y1, y2, y4, y5, z1, z2, z4, z5, encP, w1]
      exact ⟨k - 1, by omega, i + 1, by omega, rfl⟩
    · simp -implicitDefEqProofs (disch := first | decide | assumption | omega | (simp -implicitDefEqProofs only [AM.RN]; first | done | omega) | fail) only [↓AM.R0, AM.R1, AM.R2, Nat.reduceAdd, Nat.reduceLeDiff, Nat.reduceEqDiff, Int.reduceToNat, Nat.reduceLT, ↓reduceIte, Int.reduceEq, Int.reduceLT, Int.reduceLE]
      subst hQ
      exact ⟨rfl, rfl⟩
end Go.Proofs.YthillgheddpmhaaDoor.Pg

namespace Go.Proofs.YthillgheddpmhaaDoor.Pg
open Go Go.AM Go.Proofs.YthillgheddpmhaaDoor.AmGL
attribute [local irreducible] AM.wp AM.wpIs AM.wpTr AM.opI AM.gI AM.cI AM.trI AM.callI AM.fnI AM.yldI AM.rangeI AM.rangeC AM.YldP AM.asgQ AM.roundQ AM.rangeQ AM.trG AM.trOp AM.trCall AM.seqC AM.loopI
set_option maxRecDepth 100000
set_option linter.unusedVariables false
set_option linter.unusedSimpArgs false

theorem eql_fn (h : AHeap) (f : Fn) (a b : List AVal) : eqlV h false .func (.fn f a b) .nilf = some (.bool false, h) := rfl
set_option maxHeartbeats 4000000 in
/-- The law's own list of what 'Runs' gives: all of it. -/
theorem lRuns {h : AHeap} {p : PI} {n : Nat} {ws : List Nat} {lv : List (List Sm)} (K : PgV h p n ws lv) : CallP AP 27 [.ptr p.id 0 0, .int .i64 (-1)] h fun r h' => ∃ v G, HFrame h h' [] G ∧ SlOf h' 2 encP v (rowsF (fw ws) n n 0) G ∧ r = .tup [v, .bool true] := by
  refine callP (rfl : Tr.get AP 27 = some A27) ?_
  generalize hQ : (fun (r : AVal) (h' : AHeap) => _) = Q
  have hn2 := K.n2
  obtain ⟨b1, b2, b3, b4, b5, b6⟩ := K.R.basic
  simp -implicitDefEqProofs (disch := first | decide | assumption | omega | (simp -implicitDefEqProofs only [AM.RN]; first | done | omega) | fail) only [↓AM.R0, AM.R1, AM.R2, Nat.reduceAdd, Nat.reduceLeDiff, Nat.reduceEqDiff, Int.reduceToNat, Nat.reduceLT, ↓reduceIte, Int.reduceEq, Int.reduceLT, Int.reduceLE]
  refine AM.callI_of runsW ?_
  rintro r h1 ⟨hh, rfl⟩
  have f1 : HFrame h h1 [] [] := by rw [hh]; exact (((HFrame.refl (h := h) (F := []) (by simp)).pushTmp _).pushTmp _).pushTmp _
  have n1 : h1.n = h.n + 3 := by rw [hh]; simp
  have g0 : h1.get h.n = .cells 0 false [.int .i64 (-1)] := by rw [hh, AHeap.get_push_ne _ _ (by simp; omega), AHeap.get_push_ne _ _ (by simp), AHeap.get_push_same]
  have g1 : h1.get (h.n + 1) = .cells 0 false [.nils] := by
    have : (h.push (.cells 0 false [.int .i64 (-1)])).n = h.n + 1 := by simp
    rw [hh, AHeap.get_push_ne _ _ (by simp), ← this, AHeap.get_push_same]
  have g2 : h1.get (h.n + 2) = .cells 0 false [.ptr p.id 0 0] := by
    have : ((h.push (.cells 0 false [.int .i64 (-1)])).push (.cells 0 false [.nils])).n = h.n + 2 := by simp
    rw [hh, ← this, AHeap.get_push_same]
  simp -implicitDefEqProofs (disch := first | decide | assumption | omega | (simp -implicitDefEqProofs only [AM.RN]; first | done | omega) | fail) only [↓AM.R0, AM.R1, AM.R2, Nat.reduceAdd, Nat.reduceLeDiff, Nat.reduceEqDiff, Int.reduceToNat, Nat.reduceLT, ↓reduceIte, Int.reduceEq, Int.reduceLT, Int.reduceLE, g0, eql_fn]
  generalize hE : Tr.set _ 20 _ = e
  have e6 : Env.val e 6 = AVal.ptr (h.n + 1) 0 0 := by rw [← hE]; simp -implicitDefEqProofs (disch := first | decide | assumption | omega | (simp -implicitDefEqProofs only [AM.RN]; first | done | omega) | fail) only [↓AM.R0, AM.R1, AM.R2, Nat.reduceAdd, Nat.reduceLeDiff, Nat.reduceEqDiff, Int.reduceToNat, Nat.reduceLT, ↓reduceIte, Int.reduceEq, Int.reduceLT, Int.reduceLE]
  have e3 : Env.val e 3 = AVal.ptr h.n 0 0 := by rw [← hE]; simp -implicitDefEqProofs (disch := first | decide | assumption | omega | (simp -implicitDefEqProofs only [AM.RN]; first | done | omega) | fail) only [↓AM.R0, AM.R1, AM.R2, Nat.reduceAdd, Nat.reduceLeDiff, Nat.reduceEqDiff, Int.reduceToNat, Nat.reduceLT, ↓reduceIte, Int.reduceEq, Int.reduceLT, Int.reduceLE]
  clear hE
  rw [n1]
  generalize hLo : AObj.loop 0 none e [21, 22] _ _ = lo
  clear hh
  refine AM.rangeC_of (genW (p := p) (n := n) (ws := ws) hn2 (fun l h' => ∃ sv G, HFrame h h' [] G ∧ h.n + 4 ≤ h'.n ∧ h'.get h.n = .cells 0 false [.int .i64 (-1)] ∧ h'.get (h.n + 1) = .cells 0 false [sv] ∧ h'.get (h.n + 2) = .cells 0 false [.ptr p.id 0 0] ∧
    h'.get (h.n + 3) = lo ∧ SlOf h' 2 encP sv l G ∧ ∀ j, j ∈ G → h.n + 4 ≤ j) (fun _ => False) ?_ ?_ ?_) ?_
  · rintro l h' ⟨sv, G, f, n4, q0, q1, q2, q3, so, hG⟩
    exact ⟨⟨lv, K.keep f⟩, q2, by omega⟩
  · rintro l h' a k t ⟨sv, G, f, n4, q0, q1, q2, q3, so, hG⟩ hr
    have hll : l.length + 1 ≤ 4096 := by
      have := rows_len (f := fw ws) (n := n) n 0
      rw [hr, List.length_append, List.length_cons] at this; omega
    rw [← hLo] at q3
    refine AM.yldP q3 rfl ?_
    simp only [AM.putAll]
    simp -implicitDefEqProofs (disch := first | decide | assumption | omega | (simp -implicitDefEqProofs only [AM.RN]; first | done | omega) | fail) only [↓AM.R0, AM.R1, AM.R2, Nat.reduceAdd, Nat.reduceLeDiff, Nat.reduceEqDiff, Int.reduceToNat, Nat.reduceLT, ↓reduceIte, Int.reduceEq, Int.reduceLT, Int.reduceLE]
    refine AM.asgQ_of q3 ?_
    generalize hL1 : AObj.loop 1 none e [21, 22] _ _ = lo1
    have F5 := f.setTmp (i := h.n + 3) (by omega) lo1
    have n5 : (h'.set (h.n + 3) lo1).n = h'.n := by simp
    have r0 : (h'.set (h.n + 3) lo1).get h.n = .cells 0 false [.int .i64 (-1)] := by rw [AHeap.get_set_ne _ _ (by omega), q0]
    have r1 : (h'.set (h.n + 3) lo1).get (h.n + 1) = .cells 0 false [sv] := by rw [AHeap.get_set_ne _ _ (by omega), q1]
    have r2 : (h'.set (h.n + 3) lo1).get (h.n + 2) = .cells 0 false [.ptr p.id 0 0] := by rw [AHeap.get_set_ne _ _ (by omega), q2]
    have r3 : (h'.set (h.n + 3) lo1).get (h.n + 3) = lo1 := AHeap.get_set_same _ _ _
    have so5 := so.set (i := h.n + 3) (fun hm => by have := hG _ hm; omega) lo1
    generalize h'.set (h.n + 3) lo1 = h5 at *
    simp -implicitDefEqProofs (disch := first | decide | assumption | omega | (simp -implicitDefEqProofs only [AM.RN]; first | done | omega) | fail) only [↓AM.R0, AM.R1, AM.R2, Nat.reduceAdd, Nat.reduceLeDiff, Nat.reduceEqDiff, Int.reduceToNat, Nat.reduceLT, ↓reduceIte, Int.reduceEq, Int.reduceLT, Int.reduceLE, e6, r1]
    refine AM.opI_of (SlOf.app1 so5 (fun _ => rfl) (fun _ => rfl) (by omega) (a, k) fun sw h7 H7 so7 f7 => ?_)
    have t0 := (f7.get h.n (by omega) (fun hm => by have := hG _ hm; omega)).trans r0
    have t1 := (f7.get (h.n + 1) (by omega) (fun hm => by have := hG _ hm; omega)).trans r1
    have t2 := (f7.get (h.n + 2) (by omega) (fun hm => by have := hG _ hm; omega)).trans r2
    have t3 := (f7.get (h.n + 3) (by omega) (fun hm => by have := hG _ hm; omega)).trans r3
    have n7 := f7.n
    have hH : ∀ j, j ∈ H7 → h.n + 4 ≤ j := fun j hj => by
      rcases f7.new j hj with q | q
      · exact hG j q
      · omega
    have F8 := (F5.trans f7).setTmp (i := h.n + 1) (by omega) (.cells 0 false [sw])
    have so8 := so7.set (i := h.n + 1) (fun hm => by have := hH _ hm; omega) (.cells 0 false [sw])
    have dm : decide ((((l ++ [(a, k)]).length : Nat) : Int) = -1) = false := decide_eq_false (by omega)
    have dg : decide ((5000 : Int) < (((l ++ [(a, k)]).length : Nat) : Int)) = false := decide_eq_false (by rw [List.length_append, List.length_cons, List.length_nil]; omega)
    have q8 := so7.rd.cells
    simp -implicitDefEqProofs (disch := first | decide | assumption | omega | (simp -implicitDefEqProofs only [AM.RN]; first | done | omega) | fail) only [↓AM.R0, AM.R1, AM.R2, Nat.reduceAdd, Nat.reduceLeDiff, Nat.reduceEqDiff, Int.reduceToNat, Nat.reduceLT, ↓reduceIte, Int.reduceEq, Int.reduceLT, Int.reduceLE, e3, e6, t0, t1, q8.1, q8.2, so8.len, dm, dg]
    subst hL1
    refine AM.roundQ_of (by rw [AHeap.get_set_ne _ _ (by omega)]; exact t3) ?_
    refine .inl ⟨rfl, sw, H7, F8.setTmp (by omega) _, by simp; omega, ?_, ?_, ?_, ?_, so8.set (fun hm => by have := hH _ hm; omega) _, hH⟩
    · rw [AHeap.get_set_ne _ _ (by omega), AHeap.get_set_ne _ _ (by omega), t0]
    · rw [AHeap.get_set_ne _ _ (by omega), AHeap.get_set_same]
    · rw [AHeap.get_set_ne _ _ (by omega), AHeap.get_set_ne _ _ (by omega), t2]
    · rw [AHeap.get_set_same, ← hLo]; rfl
  · refine ⟨.nils, [], f1.pushTmp _, by simp [n1], ?_, ?_, ?_, ?_, SlOf.nil, by simp⟩
    · rw [AHeap.get_push_ne _ _ (by omega), g0]
    · rw [AHeap.get_push_ne _ _ (by omega), g1]
    · rw [AHeap.get_push_ne _ _ (by omega), g2]
    · rw [← n1, AHeap.get_push_same]
  · rintro r h' (⟨sv, G, f, n4, q0, q1, q2, q3, so, hG⟩ | q)
    · rw [← hLo] at q3
      refine AM.rangeQ_of q3 (by decide) ?_
      simp only [AM.pendX]
      generalize hL1 : AObj.loop 3 none e [21, 22] _ _ = lo1
      have F5 := f.setTmp (i := h.n + 3) (by omega) lo1
      have r1 : (h'.set (h.n + 3) lo1).get (h.n + 1) = .cells 0 false [sv] := by rw [AHeap.get_set_ne _ _ (by omega), q1]
      have n5 : (h'.set (h.n + 3) lo1).n = h'.n := by simp
      have so5 := so.set (i := h.n + 3) (fun hm => by have := hG _ hm; omega) lo1
      generalize h'.set (h.n + 3) lo1 = h5 at *
      simp -implicitDefEqProofs (disch := first | decide | assumption | omega | (simp -implicitDefEqProofs only [AM.RN]; first | done | omega) | fail) only [↓AM.R0, AM.R1, AM.R2, Nat.reduceAdd, Nat.reduceLeDiff, Nat.reduceEqDiff, Int.reduceToNat, Nat.reduceLT, ↓reduceIte, Int.reduceEq, Int.reduceLT, Int.reduceLE, e6, r1]
      subst hQ
      exact ⟨sv, G, F5, so5, rfl⟩
    · exact q.elim
end Go.Proofs.YthillgheddpmhaaDoor.Pg

namespace Go.Proofs.YthillgheddpmhaaDoor.Pg
open Go Go.AM Go.Proofs.YthillgheddpmhaaDoor.AmGL
attribute [local irreducible] AM.wp AM.wpIs AM.wpTr AM.opI AM.gI AM.cI AM.trI AM.callI AM.fnI AM.yldI AM.rangeI AM.rangeC AM.YldP AM.asgQ AM.roundQ AM.rangeQ AM.trG AM.trOp AM.trCall AM.seqC AM.loopI
set_option maxRecDepth 100000
set_option linter.unusedVariables false
set_option linter.unusedSimpArgs false

def encO (o : Int × Int × Int) : List AVal := [.int .i64 o.1, .int .i64 o.2.1, .int .i64 o.2.2]
theorem fi_fiF (ws : List Nat) (x : Int) : fi ws x = fiF (fw ws) x := rfl
theorem AllocF.shape {f g : Nat → Bool} {k : Int} {r : AVal} (h : AllocF f g k r) : ∃ x y, r = .tup [.int .i64 x, .int .i64 y] := by
  rcases h with ⟨_, _, e⟩ | ⟨_, _, _, e⟩ | ⟨_, x, _, _, e⟩
  · exact ⟨_, _, e⟩
  · exact ⟨_, _, e⟩
  · exact ⟨_, _, e⟩
theorem TurnF.shape {n : Nat} {f g : Nat → Bool} {b m : Int} {u : Bool} {r : AVal} (h : TurnF n f g b m u r) : ∃ x, r = .int .i64 x := by
  rcases h with ⟨_, _, _, e⟩ | ⟨_, _, _, e⟩ | ⟨_, _, e⟩
  · exact ⟨_, e⟩
  · exact ⟨_, e⟩
  · exact ⟨_, e⟩
set_option maxHeartbeats 8000000 in
theorem lawPlays {h : AHeap} (T : TabR h) {v1 : AVal} {os : List (Int × Int × Int)} (s1 : SlIn h 3 encO v1 os) (hl1 : os.length ≤ 9223372036854775807) (n : Int) :
    CallP AP 5 [.int .i64 n, v1] h fun r h' => HFrame h h' [] [] ∧ r = .bool true := by
  refine callP (rfl : Tr.get AP 5 = some A5) ?_
  generalize hQ : (fun (r : AVal) (h' : AHeap) => _) = Q
  simp -implicitDefEqProofs (disch := first | decide | assumption | omega | (simp -implicitDefEqProofs only [AM.RN]; first | done | omega) | fail) only [↓AM.R0, AM.R1, AM.R2, Nat.reduceAdd, Nat.reduceLeDiff, Nat.reduceEqDiff, Int.reduceToNat, Nat.reduceLT, ↓reduceIte, Int.reduceEq, Int.reduceLT, Int.reduceLE]
  refine AM.callI_of (newW T n) ?_
  rintro v h1 (⟨c, f1, rfl⟩ | ⟨n1, n2, p, ws, lv, f1, K, hf, rfl⟩)
  · simp -implicitDefEqProofs (disch := first | decide | assumption | omega | (simp -implicitDefEqProofs only [AM.RN]; first | done | omega) | fail) only [↓AM.R0, AM.R1, AM.R2, Nat.reduceAdd, Nat.reduceLeDiff, Nat.reduceEqDiff, Int.reduceToNat, Nat.reduceLT, ↓reduceIte, Int.reduceEq, Int.reduceLT, Int.reduceLE]
    refine AM.callI_of (rNew n) ?_
    rintro v h2 (⟨_, f2, rfl⟩ | ⟨c1, c2, _⟩)
    rotate_left
    · exact absurd ⟨c1, c2⟩ c
    simp -implicitDefEqProofs (disch := first | decide | assumption | omega | (simp -implicitDefEqProofs only [AM.RN]; first | done | omega) | fail) only [↓AM.R0, AM.R1, AM.R2, Nat.reduceAdd, Nat.reduceLeDiff, Nat.reduceEqDiff, Int.reduceToNat, Nat.reduceLT, ↓reduceIte, Int.reduceEq, Int.reduceLT, Int.reduceLE]
    refine AM.callI_of (awakeW ((T.frame f1 (by simp)).frame f2 (by simp))) ?_
    rintro v h3 ⟨f3, rfl⟩
    have bt : (true == true) = true := rfl
    simp -implicitDefEqProofs (disch := first | decide | assumption | omega | (simp -implicitDefEqProofs only [AM.RN]; first | done | omega) | fail) only [↓AM.R0, AM.R1, AM.R2, Nat.reduceAdd, Nat.reduceLeDiff, Nat.reduceEqDiff, Int.reduceToNat, Nat.reduceLT, ↓reduceIte, Int.reduceEq, Int.reduceLT, Int.reduceLE, bt]
    subst hQ
    exact ⟨(f1.trans f2).trans f3, rfl⟩
  obtain ⟨n, rfl⟩ : ∃ a : Nat, n = a := ⟨n.toNat, by omega⟩
  rw [Int.toNat_natCast] at K hf
  have T1 := T.frame f1 (by simp)
  simp -implicitDefEqProofs (disch := first | decide | assumption | omega | (simp -implicitDefEqProofs only [AM.RN]; first | done | omega) | fail) only [↓AM.R0, AM.R1, AM.R2, Nat.reduceAdd, Nat.reduceLeDiff, Nat.reduceEqDiff, Int.reduceToNat, Nat.reduceLT, ↓reduceIte, Int.reduceEq, Int.reduceLT, Int.reduceLE]
  refine AM.callI_of (rNew (n : Int)) ?_
  rintro v h2 (⟨c, _⟩ | ⟨c1, c2, r, b, f2, R, rfl⟩)
  · exact absurd ⟨n1, n2⟩ c
  rw [Int.toNat_natCast] at R
  have T2 := T1.frame f2 (by simp)
  simp -implicitDefEqProofs (disch := first | decide | assumption | omega | (simp -implicitDefEqProofs only [AM.RN]; first | done | omega) | fail) only [↓AM.R0, AM.R1, AM.R2, Nat.reduceAdd, Nat.reduceLeDiff, Nat.reduceEqDiff, Int.reduceToNat, Nat.reduceLT, ↓reduceIte, Int.reduceEq, Int.reduceLT, Int.reduceLE]
  refine AM.callI_of (awakeW T2) ?_
  rintro v h3 ⟨f3, rfl⟩
  have hR : (fun q => decide (q < n)) = fw ws := funext fun q => (hf q).symm
  rw [hR] at R
  have K3 := (K.keep f2).keep f3
  have R3 := R.keepD f3 (by simp) (by simp)
  have d1 : ∀ j, j ∈ p.F → j ∉ [r, b] := f2.dis (B := p.F) (by simp) K.R.lt |> fun q j hj => q j hj
  have F3 : HFrame h h3 [] (p.F ++ [r, b]) := by
    have q1 : HFrame h h1 [] (p.F ++ []) := by rw [List.append_nil]; exact f1
    have q2 := q1.right f2
    exact q2.trans (f3.wide (by simp) (fun j hj => .inr hj) q2.lt)
  clear f1 f2 f3 K R T1 T2 hR hf
  have bf : (false == false) = true := rfl
  simp -implicitDefEqProofs (disch := first | decide | assumption | omega | (simp -implicitDefEqProofs only [AM.RN]; first | done | omega) | fail) only [↓AM.R0, AM.R1, AM.R2, Nat.reduceAdd, Nat.reduceLeDiff, Nat.reduceEqDiff, Int.reduceToNat, Nat.reduceLT, ↓reduceIte, Int.reduceEq, Int.reduceLT, Int.reduceLE, bf, s1.len]
  refine AM.loopI_of (fun k e h' => ∃ (i : Nat) (ws : List Nat) (lv : List (List Sm)), k + i = os.length ∧ e.val 5 = .ptr p.id 0 0 ∧ e.val 7 = .ptr r 0 0 ∧ e.val 48 = v1 ∧ e.val 49 = .int .i64 (os.length : Int) ∧ e.val 50 = .int .i64 (i : Int) ∧
    HFrame h h' [] (p.F ++ [r, b]) ∧ PgV h' p n ws lv ∧ RefR h' r b n (fw ws)) os.length ?_ ?_
  · refine ⟨0, ws, lv, by omega, ?_, ?_, ?_, ?_, ?_, F3, K3, R3⟩ <;> simp -implicitDefEqProofs (disch := first | decide | assumption | omega | (simp -implicitDefEqProofs only [AM.RN]; first | done | omega) | fail) only [↓AM.R0, AM.R1, AM.R2, Nat.reduceAdd, Nat.reduceLeDiff, Nat.reduceEqDiff, Int.reduceToNat, Nat.reduceLT, ↓reduceIte, Int.reduceEq, Int.reduceLT, Int.reduceLE] <;> rfl
  clear F3 K3 R3 ws lv
  rintro k e h4 ⟨i, ws, lv, hk, e5, e7, e48, e49, e50, F4, K4, R4⟩
  have T4 := T.frame F4 (by simp)
  simp -implicitDefEqProofs (disch := first | decide | assumption | omega | (simp -implicitDefEqProofs only [AM.RN]; first | done | omega) | fail) only [↓AM.R0, AM.R1, AM.R2, Nat.reduceAdd, Nat.reduceLeDiff, Nat.reduceEqDiff, Int.reduceToNat, Nat.reduceLT, ↓reduceIte, Int.reduceEq, Int.reduceLT, Int.reduceLE, e49, e50]
  refine AM.cI_bool (fun hc => ?_) (fun hc => ?_)
  · simp only [decide_eq_true_eq] at hc
    obtain ⟨x, hx⟩ : ∃ x, os[i]? = some x := ⟨_, List.getElem?_eq_getElem (by omega)⟩
    obtain ⟨id, g, off, vs, ro, x1, x2, x3, x4, x5⟩ := ((s1.keep F4).rd hx).ix (fun _ => rfl) hx .i64
    obtain ⟨kd, bs, nn⟩ := x
    have F5 := (F4.pushTmp (.cells 0 false [.int .i64 0, .int .i64 0, .int .i64 0])).setTmp (i := h4.n) F4.n (.cells 0 false (encO (kd, bs, nn)))
    have f5 := ((HFrame.refl (h := h4) (F := []) (by simp)).pushTmp (.cells 0 false [.int .i64 0, .int .i64 0, .int .i64 0])).setTmp (i := h4.n) (Nat.le_refl _) (.cells 0 false (encO (kd, bs, nn)))
    have K5 := K4.keep f5
    have R5 := R4.keepD f5 (by simp) (by simp)
    have g5 : ((h4.push (.cells 0 false [.int .i64 0, .int .i64 0, .int .i64 0])).set h4.n (.cells 0 false (encO (kd, bs, nn)))).get h4.n = .cells 0 false (encO (kd, bs, nn)) := AHeap.get_set_same _ _ _
    have n5 : ((h4.push (.cells 0 false [.int .i64 0, .int .i64 0, .int .i64 0])).set h4.n (.cells 0 false (encO (kd, bs, nn)))).n = h4.n + 1 := by simp
    simp only [encO] at F5 f5 K5 R5 g5 n5
    have hx4 : vs.length ≥ off + 3 := x4
    simp -implicitDefEqProofs (disch := first | decide | assumption | omega | (simp -implicitDefEqProofs only [AM.RN]; first | done | omega) | fail) only [↓AM.R0, AM.R1, AM.R2, Nat.reduceAdd, Nat.reduceLeDiff, Nat.reduceEqDiff, Int.reduceToNat, Nat.reduceLT, ↓reduceIte, Int.reduceEq, Int.reduceLT, Int.reduceLE, e48, e50, x1, x2, x4, x5, encO]
    have l4 : h4.n < ((h4.push (.cells 0 false [.int .i64 0, .int .i64 0, .int .i64 0])).set h4.n (.cells 0 false [.int .i64 kd, .int .i64 bs, .int .i64 nn])).n := by omega
    have T5 := T.frame F5 (by simp)
    generalize ((h4.push (.cells 0 false [.int .i64 0, .int .i64 0, .int .i64 0])).set h4.n (.cells 0 false [.int .i64 kd, .int .i64 bs, .int .i64 nn])) = h5 at *
    have oF : ∀ j, j ∈ p.F → h4.n ≠ j := fun j hj e => by have := K4.R.lt j hj; omega
    have oF' : h4.n ∉ p.F := fun hm => oF _ hm rfl
    have oB : h4.n ∉ [b] := by have := R4.lb; simp; omega
    have dB : ∀ j, j ∈ p.F → j ∉ [b] := fun j hj hm => d1 j hj (by simp at hm; simp [hm])
    have rF : r ∉ p.F := fun hm => d1 _ hm (by simp)
    have bF : b ∉ p.F := fun hm => d1 _ hm (by simp)
    refine AM.cI_cut (fun e' h' => ∃ (ws : List Nat) (lv : List (List Sm)), e'.val 5 = .ptr p.id 0 0 ∧ e'.val 7 = .ptr r 0 0 ∧ e'.val 10 = .ptr h4.n 0 0 ∧ e'.val 11 = .bool true ∧ e'.val 48 = v1 ∧ e'.val 49 = .int .i64 (os.length : Int) ∧ e'.val 50 = .int .i64 (i : Int) ∧
      HFrame h h' [] (p.F ++ [r, b]) ∧ PgV h' p n ws lv ∧ RefR h' r b n (fw ws) ∧ h'.get h4.n = .cells 0 false [.int .i64 kd, .int .i64 bs, .int .i64 nn] ∧ h4.n < h'.n) ?_ ?_
    · clear e5 e7 e48 e49 e50
      rintro e h6 ⟨ws, lv, e5, e7, e10, e11, e48, e49, e50, F6, K6, R6, g6, l6⟩
      simp -implicitDefEqProofs (disch := first | decide | assumption | omega | (simp -implicitDefEqProofs only [AM.RN]; first | done | omega) | fail) only [↓AM.R0, AM.R1, AM.R2, Nat.reduceAdd, Nat.reduceLeDiff, Nat.reduceEqDiff, Int.reduceToNat, Nat.reduceLT, ↓reduceIte, Int.reduceEq, Int.reduceLT, Int.reduceLE, e5]
      refine AM.callI_of (countsW K6) ?_
      rintro v h7 ⟨f7, x, V, rfl⟩
      have K7 := K6.keep f7
      have R7 := R6.keepD f7 (by simp) (by simp)
      have g7 := (f7.get _ l6 (by simp)).trans g6
      have n7 := f7.n
      simp -implicitDefEqProofs (disch := first | decide | assumption | omega | (simp -implicitDefEqProofs only [AM.RN]; first | done | omega) | fail) only [↓AM.R0, AM.R1, AM.R2, Nat.reduceAdd, Nat.reduceLeDiff, Nat.reduceEqDiff, Int.reduceToNat, Nat.reduceLT, ↓reduceIte, Int.reduceEq, Int.reduceLT, Int.reduceLE, e7]
      refine AM.callI_of (rCounts R7) ?_
      rintro v h8 ⟨hh, m, hm, rfl⟩
      rw [hh]
      have z1 : sumR (rowsF (fw ws) n n 0) = freeN (fw ws) n := by have := sum_free K6.out n 0 (by omega); rw [← this]; rfl
      have z2 : x.m = m := (V.most (fun q hq => K6.out q (by have := K6.wl; omega))).uniq hm
      rw [z1, z2]
      have l7 : h4.n < h7.n := by omega
      simp -implicitDefEqProofs (disch := first | decide | assumption | omega | (simp -implicitDefEqProofs only [AM.RN]; first | done | omega) | fail) only [↓AM.R0, AM.R1, AM.R2, Nat.reduceAdd, Nat.reduceLeDiff, Nat.reduceEqDiff, Int.reduceToNat, Nat.reduceLT, ↓reduceIte, Int.reduceEq, Int.reduceLT, Int.reduceLE, e5, e7, e10, e11, g7]
      refine AM.trCall_of (usedW K7 bs) ?_
      rintro v h9 ⟨hh9, rfl⟩
      rw [hh9]
      simp -implicitDefEqProofs (disch := first | decide | assumption | omega | (simp -implicitDefEqProofs only [AM.RN]; first | done | omega) | fail) only [↓AM.R0, AM.R1, AM.R2, Nat.reduceAdd, Nat.reduceLeDiff, Nat.reduceEqDiff, Int.reduceToNat, Nat.reduceLT, ↓reduceIte, Int.reduceEq, Int.reduceLT, Int.reduceLE, e5, e7, e10, e11, g7]
      refine AM.trCall_of (rUsed R7 bs) ?_
      rintro v h10 ⟨hh10, rfl⟩
      rw [hh10, fi_fiF]
      have bb : ∀ u : Bool, (u == u) = true := fun u => by cases u <;> rfl
      have w1 : IntKind.i64.wrap ((i : Int) + 1) = ((i + 1 : Nat) : Int) := (wrap64 (by omega) (by omega)).trans (by omega)
      simp -implicitDefEqProofs (disch := first | decide | assumption | omega | (simp -implicitDefEqProofs only [AM.RN]; first | done | omega) | fail) only [↓AM.R0, AM.R1, AM.R2, Nat.reduceAdd, Nat.reduceLeDiff, Nat.reduceEqDiff, Int.reduceToNat, Nat.reduceLT, ↓reduceIte, Int.reduceEq, Int.reduceLT, Int.reduceLE, e5, e7, e10, e11, g7, bb, e50, w1]
      exact ⟨k - 1, by omega, i + 1, ws, lv, by omega, e48, e49, rfl, F6.trans (f7.wide (G := p.F ++ [r, b]) (G' := p.F ++ [r, b]) (by simp) (fun j hj => .inr hj) F6.lt), K7, R7⟩
    · refine AM.cI_bool (fun hd => ?_) (fun hd => ?_)
      · simp -implicitDefEqProofs (disch := first | decide | assumption | omega | (simp -implicitDefEqProofs only [AM.RN]; first | done | omega) | fail) only [↓AM.R0, AM.R1, AM.R2, Nat.reduceAdd, Nat.reduceLeDiff, Nat.reduceEqDiff, Int.reduceToNat, Nat.reduceLT, ↓reduceIte, Int.reduceEq, Int.reduceLT, Int.reduceLE, e5, g5]
        refine AM.callI_of (allocW T5 K5 nn) ?_
        rintro v h6 ⟨ws6, lv6, f6, K6, A6⟩
        have R6 := R5.keepD f6 rF bF
        have g6 := (f6.get _ l4 oF').trans g5
        have n6 := f6.n
        have A6' := A6.toF
        obtain ⟨x, y, rfl⟩ := A6'.shape
        simp -implicitDefEqProofs (disch := first | decide | assumption | omega | (simp -implicitDefEqProofs only [AM.RN]; first | done | omega) | fail) only [↓AM.R0, AM.R1, AM.R2, Nat.reduceAdd, Nat.reduceLeDiff, Nat.reduceEqDiff, Int.reduceToNat, Nat.reduceLT, ↓reduceIte, Int.reduceEq, Int.reduceLT, Int.reduceLE, e7, g6]
        refine AM.callI_of (rAlloc R6 nn) ?_
        rintro v h7 ⟨g, f7, R7, A7⟩
        obtain ⟨hg, hv⟩ := A6'.det A7
        subst hg hv
        have K7 := K6.keepD f7 dB
        have g7 := (f7.get _ (by omega) oB).trans g6
        have n7 := f7.n
        have F7 := (F5.left f6).right (f7.wide (G := [r, b]) (G' := [r, b]) (by simp) (fun j hj => .inr hj) (fun j hj => (F5.left f6).lt j (List.mem_append_right _ hj)))
        simp -implicitDefEqProofs (disch := first | decide | assumption | omega | (simp -implicitDefEqProofs only [AM.RN]; first | done | omega) | fail) only [↓AM.R0, AM.R1, AM.R2, Nat.reduceAdd, Nat.reduceLeDiff, Nat.reduceEqDiff, Int.reduceToNat, Nat.reduceLT, ↓reduceIte, Int.reduceEq, Int.reduceLT, Int.reduceLE]
        exact ⟨ws6, lv6, e5, e7, e48, e49, e50, F7, K7, R7, g7, by omega⟩
      · clear hd
        simp -implicitDefEqProofs (disch := first | decide | assumption | omega | (simp -implicitDefEqProofs only [AM.RN]; first | done | omega) | fail) only [↓AM.R0, AM.R1, AM.R2, Nat.reduceAdd, Nat.reduceLeDiff, Nat.reduceEqDiff, Int.reduceToNat, Nat.reduceLT, ↓reduceIte, Int.reduceEq, Int.reduceLT, Int.reduceLE]
        refine AM.cI_bool (fun hd => ?_) (fun hd => ?_)
        · simp -implicitDefEqProofs (disch := first | decide | assumption | omega | (simp -implicitDefEqProofs only [AM.RN]; first | done | omega) | fail) only [↓AM.R0, AM.R1, AM.R2, Nat.reduceAdd, Nat.reduceLeDiff, Nat.reduceEqDiff, Int.reduceToNat, Nat.reduceLT, ↓reduceIte, Int.reduceEq, Int.reduceLT, Int.reduceLE, e5, e7, g5]
          refine AM.trCall_of (takeW T5 K5 bs nn) ?_
          rintro v h6 ⟨ws6, lv6, f6, K6, A6⟩
          have R6 := R5.keepD f6 rF bF
          have g6 := (f6.get _ l4 oF').trans g5
          have n6 := f6.n
          have A6' := A6.toF
          obtain ⟨x, rfl⟩ := A6'.shape
          have l6 : h4.n < h6.n := by omega
          simp -implicitDefEqProofs (disch := first | decide | assumption | omega | (simp -implicitDefEqProofs only [AM.RN]; first | done | omega) | fail) only [↓AM.R0, AM.R1, AM.R2, Nat.reduceAdd, Nat.reduceLeDiff, Nat.reduceEqDiff, Int.reduceToNat, Nat.reduceLT, ↓reduceIte, Int.reduceEq, Int.reduceLT, Int.reduceLE, e5, e7, g5, g6]
          refine AM.trCall_of (rTurn R6 bs nn true) ?_
          rintro v h7 ⟨g, f7, R7, A7⟩
          obtain ⟨hg, hv⟩ := A6'.det A7
          subst hg hv
          have K7 := K6.keepD f7 dB
          have g7 := (f7.get _ (by omega) oB).trans g6
          have n7 := f7.n
          have l7 : h4.n < h7.n := by omega
          have F7 := (F5.left f6).right (f7.wide (G := [r, b]) (G' := [r, b]) (by simp) (fun j hj => .inr hj) (fun j hj => (F5.left f6).lt j (List.mem_append_right _ hj)))
          simp -implicitDefEqProofs (disch := first | decide | assumption | omega | (simp -implicitDefEqProofs only [AM.RN]; first | done | omega) | fail) only [↓AM.R0, AM.R1, AM.R2, Nat.reduceAdd, Nat.reduceLeDiff, Nat.reduceEqDiff, Int.reduceToNat, Nat.reduceLT, ↓reduceIte, Int.reduceEq, Int.reduceLT, Int.reduceLE, e5, e7, g5, g6, g7]
          exact ⟨ws6, lv6, e48, e49, e50, F7, K7, R7, l7⟩
        · clear hd
          simp -implicitDefEqProofs (disch := first | decide | assumption | omega | (simp -implicitDefEqProofs only [AM.RN]; first | done | omega) | fail) only [↓AM.R0, AM.R1, AM.R2, Nat.reduceAdd, Nat.reduceLeDiff, Nat.reduceEqDiff, Int.reduceToNat, Nat.reduceLT, ↓reduceIte, Int.reduceEq, Int.reduceLT, Int.reduceLE]
          refine AM.cI_bool (fun hd => ?_) (fun hd => ?_)
          · simp -implicitDefEqProofs (disch := first | decide | assumption | omega | (simp -implicitDefEqProofs only [AM.RN]; first | done | omega) | fail) only [↓AM.R0, AM.R1, AM.R2, Nat.reduceAdd, Nat.reduceLeDiff, Nat.reduceEqDiff, Int.reduceToNat, Nat.reduceLT, ↓reduceIte, Int.reduceEq, Int.reduceLT, Int.reduceLE, e5, e7, g5]
            refine AM.trCall_of (freeW T5 K5 bs nn) ?_
            rintro v h6 ⟨ws6, lv6, f6, K6, A6⟩
            have R6 := R5.keepD f6 rF bF
            have g6 := (f6.get _ l4 oF').trans g5
            have n6 := f6.n
            have A6' := A6.toF
            obtain ⟨x, rfl⟩ := A6'.shape
            have l6 : h4.n < h6.n := by omega
            simp -implicitDefEqProofs (disch := first | decide | assumption | omega | (simp -implicitDefEqProofs only [AM.RN]; first | done | omega) | fail) only [↓AM.R0, AM.R1, AM.R2, Nat.reduceAdd, Nat.reduceLeDiff, Nat.reduceEqDiff, Int.reduceToNat, Nat.reduceLT, ↓reduceIte, Int.reduceEq, Int.reduceLT, Int.reduceLE, e5, e7, g5, g6]
            refine AM.trCall_of (rTurn R6 bs nn false) ?_
            rintro v h7 ⟨g, f7, R7, A7⟩
            obtain ⟨hg, hv⟩ := A6'.det A7
            subst hg hv
            have K7 := K6.keepD f7 dB
            have g7 := (f7.get _ (by omega) oB).trans g6
            have n7 := f7.n
            have l7 : h4.n < h7.n := by omega
            have F7 := (F5.left f6).right (f7.wide (G := [r, b]) (G' := [r, b]) (by simp) (fun j hj => .inr hj) (fun j hj => (F5.left f6).lt j (List.mem_append_right _ hj)))
            simp -implicitDefEqProofs (disch := first | decide | assumption | omega | (simp -implicitDefEqProofs only [AM.RN]; first | done | omega) | fail) only [↓AM.R0, AM.R1, AM.R2, Nat.reduceAdd, Nat.reduceLeDiff, Nat.reduceEqDiff, Int.reduceToNat, Nat.reduceLT, ↓reduceIte, Int.reduceEq, Int.reduceLT, Int.reduceLE, e5, e7, g5, g6, g7]
            exact ⟨ws6, lv6, e48, e49, e50, F7, K7, R7, l7⟩
          · simp -implicitDefEqProofs (disch := first | decide | assumption | omega | (simp -implicitDefEqProofs only [AM.RN]; first | done | omega) | fail) only [↓AM.R0, AM.R1, AM.R2, Nat.reduceAdd, Nat.reduceLeDiff, Nat.reduceEqDiff, Int.reduceToNat, Nat.reduceLT, ↓reduceIte, Int.reduceEq, Int.reduceLT, Int.reduceLE, e5, e7]
            exact ⟨ws, lv, e48, e49, e50, F5, K5, R5, g5, l4⟩
  · simp -implicitDefEqProofs (disch := first | decide | assumption | omega | (simp -implicitDefEqProofs only [AM.RN]; first | done | omega) | fail) only [↓AM.R0, AM.R1, AM.R2, Nat.reduceAdd, Nat.reduceLeDiff, Nat.reduceEqDiff, Int.reduceToNat, Nat.reduceLT, ↓reduceIte, Int.reduceEq, Int.reduceLT, Int.reduceLE, e5]
    refine AM.callI_of (lRuns K4) ?_
    rintro v h5 ⟨w, G, f5, so5, rfl⟩
    have R5 := R4.keepD f5 (by simp) (by simp)
    have F5 := F4.trans (f5.wide (G := p.F ++ [r, b]) (G' := p.F ++ [r, b]) (by simp) (fun j hj => .inr hj) F4.lt)
    simp -implicitDefEqProofs (disch := first | decide | assumption | omega | (simp -implicitDefEqProofs only [AM.RN]; first | done | omega) | fail) only [↓AM.R0, AM.R1, AM.R2, Nat.reduceAdd, Nat.reduceLeDiff, Nat.reduceEqDiff, Int.reduceToNat, Nat.reduceLT, ↓reduceIte, Int.reduceEq, Int.reduceLT, Int.reduceLE, e7]
    refine AM.callI_of (rRuns R5) ?_
    rintro v h6 ⟨G2, f6, so6⟩
    have F6 := F5.trans (f6.wide (G := p.F ++ [r, b]) (G' := p.F ++ [r, b]) (by simp) (fun j hj => .inr hj) F5.lt)
    have so5' := so5.frame f6.n fun j hj => f6.get j (so5.lt j hj) (by simp)
    have hln := rows_len (f := fw ws) (n := n) n 0
    simp -implicitDefEqProofs (disch := first | decide | assumption | omega | (simp -implicitDefEqProofs only [AM.RN]; first | done | omega) | fail) only [↓AM.R0, AM.R1, AM.R2, Nat.reduceAdd, Nat.reduceLeDiff, Nat.reduceEqDiff, Int.reduceToNat, Nat.reduceLT, ↓reduceIte, Int.reduceEq, Int.reduceLT, Int.reduceLE]
    refine AM.callI_of (rSame so5'.rd so6.rd (by have := K4.n2; omega)) ?_
    rintro v h7 ⟨rfl, rfl⟩
    simp -implicitDefEqProofs (disch := first | decide | assumption | omega | (simp -implicitDefEqProofs only [AM.RN]; first | done | omega) | fail) only [↓AM.R0, AM.R1, AM.R2, Nat.reduceAdd, Nat.reduceLeDiff, Nat.reduceEqDiff, Int.reduceToNat, Nat.reduceLT, ↓reduceIte, Int.reduceEq, Int.reduceLT, Int.reduceLE]
    subst hQ
    exact ⟨HFrame.non F6, rfl⟩
end Go.Proofs.YthillgheddpmhaaDoor.Pg

