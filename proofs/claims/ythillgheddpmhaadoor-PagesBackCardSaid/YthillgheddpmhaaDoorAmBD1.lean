/-
  What the functions of this seat do, on the machine: lemmas for the laws.
-/
import Derived.Test.YthillgheddpmhaaDoorAmBK
import Derived.Test.YthillgheddpmhaaDoorAmBD0
namespace Go.Proofs.YthillgheddpmhaaDoor.Pg
open Go Go.AM Go.Proofs.YthillgheddpmhaaDoor.AmGB
attribute [local irreducible] AM.wp AM.wpIs AM.wpTr AM.opI AM.gI AM.cI AM.trI AM.callI AM.fnI AM.yldI AM.rangeI AM.rangeC AM.YldP AM.asgQ AM.roundQ AM.rangeQ AM.trG AM.trOp AM.trCall AM.seqC AM.loopI
set_option maxRecDepth 100000
set_option linter.unusedVariables false
set_option linter.unusedSimpArgs false

/-- How long the row is that begins here. -/
def cntF (f : Nat → Bool) : Nat → Nat → Nat
  | 0, _ => 0
  | k + 1, p => if f p = true then cntF f k (p + 1) + 1 else 0
theorem cntF_eq {f : Nat → Bool} : ∀ (k p c : Nat), Row f p c → f (p + c) = false → c ≤ k → cntF f k p = c
  | 0, p, c, _, _, h => by obtain rfl : c = 0 := by omega
                           rfl
  | k + 1, p, 0, _, h2, _ => by rw [cntF, if_neg]; rw [Nat.add_zero] at h2; rw [h2]; simp
  | k + 1, p, c + 1, h1, h2, h3 => by
    rw [cntF, if_pos (by have := h1 0 (by omega); rwa [Nat.add_zero] at this), cntF_eq k (p + 1) c (fun t ht => by have := h1 (1 + t) (by omega); rwa [← Nat.add_assoc] at this) (by rwa [show p + 1 + c = p + (c + 1) by omega]) (by omega)]
/-- The rows of free places. -/
def rowsF (f : Nat → Bool) (n : Nat) : Nat → Nat → List (Nat × Nat)
  | 0, _ => []
  | k + 1, p => if p < n then (if 0 < cntF f (n - p) p then [(p, cntF f (n - p) p)] else []) ++ rowsF f n k (p + cntF f (n - p) p + 1) else []

set_option maxHeartbeats 4000000 in
/-- The rows are given one by one. -/
theorem genW {h : AHeap} {p : PI} {n : Nat} {ws : List Nat} {id c : Nat} (hn4 : n ≤ 4096) (I : List (Nat × Nat) → AHeap → Prop) (J : AHeap → Prop) (hK : ∀ l h, I l h → (∃ lv, PgV h p n ws lv) ∧ h.get c = .cells 0 false [.ptr p.id 0 0] ∧ c < h.n)
    (hy : ∀ (l : List (Nat × Nat)) (h : AHeap) (a k : Nat) (t : List (Nat × Nat)), I l h → rowsF (fw ws) n n 0 = l ++ (a, k) :: t → YldP AP id [.int .i64 (a : Int), .int .i64 (k : Int)] h fun r h' => (r = .bool true ∧ I (l ++ [(a, k)]) h') ∨ (r = .bool false ∧ J h')) (h0 : I [] h) :
    CallP AP 84 [.yld id, .ptr c 0 0] h fun r h' => I (rowsF (fw ws) n n 0) h' ∨ J h' := by
  refine callP (rfl : Tr.get AP 84 = some A84) ?_
  generalize hQ : (fun (r : AVal) (h' : AHeap) => _) = Q
  obtain ⟨⟨lv, K⟩, gc, nc⟩ := hK _ _ h0
  simp -implicitDefEqProofs (disch := first | decide | assumption | omega | (simp -implicitDefEqProofs only [AM.RN]; first | done | omega) | fail) only [↓AM.R0, AM.R1, AM.R2, Nat.reduceAdd, Nat.reduceLeDiff, Nat.reduceEqDiff, Int.reduceToNat, Nat.reduceLT, ↓reduceIte, Int.reduceEq, Int.reduceLT, Int.reduceLE, gc]
  refine AM.loopI_of (fun k e h' => ∃ (a : Nat) (l : List (Nat × Nat)), n ≤ a + k ∧ a ≤ n + 1 ∧ e.val 0 = .yld id ∧ e.val 1 = .ptr c 0 0 ∧ e.val 3 = .int .i64 (a : Int) ∧ I l h' ∧ rowsF (fw ws) n n 0 = l ++ rowsF (fw ws) n k a) n ?_ ?_
  · refine ⟨0, [], by omega, by omega, ?_, ?_, ?_, h0, rfl⟩ <;> simp -implicitDefEqProofs (disch := first | decide | assumption | omega | (simp -implicitDefEqProofs only [AM.RN]; first | done | omega) | fail) only [↓AM.R0, AM.R1, AM.R2, Nat.reduceAdd, Nat.reduceLeDiff, Nat.reduceEqDiff, Int.reduceToNat, Nat.reduceLT, ↓reduceIte, Int.reduceEq, Int.reduceLT, Int.reduceLE] <;> rfl
  · clear K gc nc lv h0
    rintro k e h' ⟨a, l, hk, hka, e0, e1, e3, hI, hR⟩
    obtain ⟨⟨lv, K⟩, gc, nc⟩ := hK _ _ hI
    have g1 := K.R.obj
    obtain ⟨b1, b2, b3, b4, b5, b6⟩ := K.R.basic
    simp -implicitDefEqProofs (disch := first | decide | assumption | omega | (simp -implicitDefEqProofs only [AM.RN]; first | done | omega) | fail) only [↓AM.R0, AM.R1, AM.R2, Nat.reduceAdd, Nat.reduceLeDiff, Nat.reduceEqDiff, Int.reduceToNat, Nat.reduceLT, ↓reduceIte, Int.reduceEq, Int.reduceLT, Int.reduceLE, e1, e3, gc, g1]
    refine AM.cI_bool (fun hb => ?_) (fun hb => ?_)
    · simp only [decide_eq_true_eq] at hb
      obtain ⟨k, rfl⟩ : ∃ j, k = j + 1 := ⟨k - 1, by omega⟩
      simp -implicitDefEqProofs (disch := first | decide | assumption | omega | (simp -implicitDefEqProofs only [AM.RN]; first | done | omega) | fail) only [↓AM.R0, AM.R1, AM.R2, Nat.reduceAdd, Nat.reduceLeDiff, Nat.reduceEqDiff, Int.reduceToNat, Nat.reduceLT, ↓reduceIte, Int.reduceEq, Int.reduceLT, Int.reduceLE]
      refine AM.loopI_of (fun k e h'' => ∃ (m : Nat), k + m + a = n + 1 ∧ h'' = h' ∧ e.val 0 = .yld id ∧ e.val 1 = .ptr c 0 0 ∧ e.val 3 = .int .i64 (a : Int) ∧ e.val 4 = .int .i64 (m : Int) ∧ Row (fw ws) a m) (n + 1 - a) ?_ ?_
      · refine ⟨0, by omega, rfl, ?_, ?_, ?_, ?_, fun t ht => by omega⟩ <;> simp -implicitDefEqProofs (disch := first | decide | assumption | omega | (simp -implicitDefEqProofs only [AM.RN]; first | done | omega) | fail) only [↓AM.R0, AM.R1, AM.R2, Nat.reduceAdd, Nat.reduceLeDiff, Nat.reduceEqDiff, Int.reduceToNat, Nat.reduceLT, ↓reduceIte, Int.reduceEq, Int.reduceLT, Int.reduceLE, e0, e1, e3] <;> rfl
      · clear e0 e1 e3
        rintro k2 e h'' ⟨m, hm, hh, e0, e1, e3, e4, hrow⟩
        rw [hh]
        have hmn : a + m ≤ n := by
          rcases Nat.lt_or_ge n (a + m) with q | q
          · have := hrow (m - 1) (by omega)
            rw [K.out _ (by omega)] at this; cases this
          · exact q
        have w1 : IntKind.i64.wrap ((a : Int) + (m : Int)) = ((a + m : Nat) : Int) := (wrap64 (by omega) (by omega)).trans (by omega)
        have w2 : IntKind.i64.wrap ((m : Int) + 1) = ((m + 1 : Nat) : Int) := (wrap64 (by omega) (by omega)).trans (by omega)
        simp -implicitDefEqProofs (disch := first | decide | assumption | omega | (simp -implicitDefEqProofs only [AM.RN]; first | done | omega) | fail) only [↓AM.R0, AM.R1, AM.R2, Nat.reduceAdd, Nat.reduceLeDiff, Nat.reduceEqDiff, Int.reduceToNat, Nat.reduceLT, ↓reduceIte, Int.reduceEq, Int.reduceLT, Int.reduceLE, e1, e3, e4, gc, w1]
        refine AM.callI_of (usedW K ((a + m : Nat) : Int)) ?_
        rintro r h6 ⟨rfl, rfl⟩
        rw [fi_nat]
        simp -implicitDefEqProofs (disch := first | decide | assumption | omega | (simp -implicitDefEqProofs only [AM.RN]; first | done | omega) | fail) only [↓AM.R0, AM.R1, AM.R2, Nat.reduceAdd, Nat.reduceLeDiff, Nat.reduceEqDiff, Int.reduceToNat, Nat.reduceLT, ↓reduceIte, Int.reduceEq, Int.reduceLT, Int.reduceLE, Bool.not_not]
        refine AM.cI_bool (fun hc => ?_) (fun hc => ?_)
        · have hlt : a + m < n := by
            rcases Nat.lt_or_ge (a + m) n with q | q
            · exact q
            · rw [K.out _ q] at hc; cases hc
          simp -implicitDefEqProofs (disch := first | decide | assumption | omega | (simp -implicitDefEqProofs only [AM.RN]; first | done | omega) | fail) only [↓AM.R0, AM.R1, AM.R2, Nat.reduceAdd, Nat.reduceLeDiff, Nat.reduceEqDiff, Int.reduceToNat, Nat.reduceLT, ↓reduceIte, Int.reduceEq, Int.reduceLT, Int.reduceLE, e4, w2]
          refine ⟨k2 - 1, by omega, m + 1, by omega, e0, e1, e3, rfl, hrow.join (q := a + m) (j := 1) (fun t ht => by rw [show a + m + t = a + m by omega]; exact hc) rfl⟩
        · have hcn : cntF (fw ws) (n - a) a = m := cntF_eq _ _ _ hrow hc (by omega)
          rw [rowsF, if_pos (by omega), hcn] at hR
          simp -implicitDefEqProofs (disch := first | decide | assumption | omega | (simp -implicitDefEqProofs only [AM.RN]; first | done | omega) | fail) only [↓AM.R0, AM.R1, AM.R2, Nat.reduceAdd, Nat.reduceLeDiff, Nat.reduceEqDiff, Int.reduceToNat, Nat.reduceLT, ↓reduceIte, Int.reduceEq, Int.reduceLT, Int.reduceLE, e4]
          refine AM.gI_bool (fun hd => ?_) (fun hd => ?_)
          · have hd' : 0 < m := by simp only [decide_eq_true_eq] at hd; omega
            rw [if_pos hd', List.cons_append, List.nil_append] at hR
            simp -implicitDefEqProofs (disch := first | decide | assumption | omega | (simp -implicitDefEqProofs only [AM.RN]; first | done | omega) | fail) only [↓AM.R0, AM.R1, AM.R2, Nat.reduceAdd, Nat.reduceLeDiff, Nat.reduceEqDiff, Int.reduceToNat, Nat.reduceLT, ↓reduceIte, Int.reduceEq, Int.reduceLT, Int.reduceLE, e0, e3, e4, hd]
            refine AM.yldI_of (hy l h6 a m _ hI hR) ?_
            rintro r h7 (⟨rfl, hI7⟩ | ⟨rfl, hJ⟩)
            · have w3 : IntKind.i64.wrap (((a + m : Nat) : Int) + 1) = ((a + m + 1 : Nat) : Int) := (wrap64 (by omega) (by omega)).trans (by omega)
              simp -implicitDefEqProofs (disch := first | decide | assumption | omega | (simp -implicitDefEqProofs only [AM.RN]; first | done | omega) | fail) only [↓AM.R0, AM.R1, AM.R2, Nat.reduceAdd, Nat.reduceLeDiff, Nat.reduceEqDiff, Int.reduceToNat, Nat.reduceLT, ↓reduceIte, Int.reduceEq, Int.reduceLT, Int.reduceLE, e3, e4, hd, w1, w3]
              exact ⟨k, by omega, a + m + 1, l ++ [(a, m)], by omega, by omega, e0, e1, rfl, hI7, by rw [hR, List.append_assoc]; rfl⟩
            · simp -implicitDefEqProofs (disch := first | decide | assumption | omega | (simp -implicitDefEqProofs only [AM.RN]; first | done | omega) | fail) only [↓AM.R0, AM.R1, AM.R2, Nat.reduceAdd, Nat.reduceLeDiff, Nat.reduceEqDiff, Int.reduceToNat, Nat.reduceLT, ↓reduceIte, Int.reduceEq, Int.reduceLT, Int.reduceLE, hd]
              subst hQ
              exact .inr hJ
          · have hd' : ¬ 0 < m := by simp only [decide_eq_false_iff_not] at hd; omega
            have w3 : IntKind.i64.wrap (((a + m : Nat) : Int) + 1) = ((a + m + 1 : Nat) : Int) := (wrap64 (by omega) (by omega)).trans (by omega)
            rw [if_neg hd', List.nil_append] at hR
            simp -implicitDefEqProofs (disch := first | decide | assumption | omega | (simp -implicitDefEqProofs only [AM.RN]; first | done | omega) | fail) only [↓AM.R0, AM.R1, AM.R2, Nat.reduceAdd, Nat.reduceLeDiff, Nat.reduceEqDiff, Int.reduceToNat, Nat.reduceLT, ↓reduceIte, Int.reduceEq, Int.reduceLT, Int.reduceLE, e3, e4, hd, w1, w3]
            exact ⟨k, by omega, a + m + 1, l, by omega, by omega, e0, e1, rfl, hI, hR⟩
    · simp only [decide_eq_false_iff_not] at hb
      have hz : rowsF (fw ws) n k a = [] := by
        cases k with
        | zero => rfl
        | succ k => rw [rowsF, if_neg (by omega)]
      simp -implicitDefEqProofs (disch := first | decide | assumption | omega | (simp -implicitDefEqProofs only [AM.RN]; first | done | omega) | fail) only [↓AM.R0, AM.R1, AM.R2, Nat.reduceAdd, Nat.reduceLeDiff, Nat.reduceEqDiff, Int.reduceToNat, Nat.reduceLT, ↓reduceIte, Int.reduceEq, Int.reduceLT, Int.reduceLE]
      subst hQ
      rw [hz, List.append_nil] at hR
      exact .inl (hR ▸ hI)

def sumR (l : List (Nat × Nat)) : Nat := (l.map (·.2)).sum
theorem sumR_app (l : List (Nat × Nat)) (a k : Nat) : sumR (l ++ [(a, k)]) = sumR l + k := by simp [sumR]
theorem sumR_rest (l t : List (Nat × Nat)) (a k : Nat) : sumR l + k ≤ sumR (l ++ (a, k) :: t) := by simp [sumR]
theorem sum_rowsF {f : Nat → Bool} {n : Nat} (ho : ∀ q, n ≤ q → f q = false) : ∀ k p, sumR (rowsF f n k p) ≤ n - p
  | 0, p => by simp [rowsF, sumR]
  | k + 1, p => by
    rw [rowsF]
    split
    · rename_i hp
      have ih := sum_rowsF ho k (p + cntF f (n - p) p + 1)
      have hc : ∀ j p, cntF f j p ≤ j := fun j => by
        induction j with
        | zero => intro p; exact Nat.le_refl _
        | succ j ih => intro p; rw [cntF]; split
                       · have := ih (p + 1); omega
                       · omega
      have hc := hc (n - p) p
      split
      · simp only [List.cons_append, List.nil_append]
        have : sumR ((p, cntF f (n - p) p) :: rowsF f n k (p + cntF f (n - p) p + 1)) = cntF f (n - p) p + sumR (rowsF f n k (p + cntF f (n - p) p + 1)) := by simp [sumR]
        rw [this]; omega
      · rw [List.nil_append]; omega
    · simp [sumR]

theorem PgV.topS {h : AHeap} {p : PI} {n : Nat} {ws : List Nat} {lv : List (List Sm)} (K : PgV h p n ws lv) : ∃ x it, IsSum (fw ws) 0 (64 * ws.length) x ∧ lv[lv.length - 1]? = some [x] ∧ p.ids[lv.length - 1]? = some it := by
  have hne := K.ne
  obtain ⟨lt, hlt⟩ : ∃ l, lv[lv.length - 1]? = some l := ⟨_, List.getElem?_eq_getElem (by omega)⟩
  obtain ⟨it, hit⟩ : ∃ l, p.ids[lv.length - 1]? = some l := ⟨_, List.getElem?_eq_getElem (by have := K.R.len; omega)⟩
  have ltl : lt.length = 1 := (K.S _ _ hlt).trans K.top
  obtain ⟨x, rfl⟩ : ∃ x, lt = [x] := List.length_eq_one_iff.1 ltl
  have VT := K.V _ _ 0 x hlt rfl
  unfold Val at VT
  have hge := cl_ge ws.length (lv.length - 1)
  rw [K.top, Nat.mul_one] at hge
  rw [Nat.mul_zero, Nat.zero_min, Nat.zero_add, Nat.mul_one, Nat.min_eq_right (by omega)] at VT
  exact ⟨x, it, VT, hlt, hit⟩

theorem runsW {h : AHeap} {p : PI} : CallP AP 61 [.ptr p.id 0 0] h fun r h' => h' = h.push (.cells 0 false [.ptr p.id 0 0]) ∧ r = .fn (.func 84) [] [.ptr h.n 0 0] := by
  refine callP (rfl : Tr.get AP 61 = some A61) ?_
  generalize hQ : (fun (r : AVal) (h' : AHeap) => _) = Q
  simp -implicitDefEqProofs (disch := first | decide | assumption | omega | (simp -implicitDefEqProofs only [AM.RN]; first | done | omega) | fail) only [↓AM.R0, AM.R1, AM.R2, Nat.reduceAdd, Nat.reduceLeDiff, Nat.reduceEqDiff, Int.reduceToNat, Nat.reduceLT, ↓reduceIte, Int.reduceEq, Int.reduceLT, Int.reduceLE]
  subst hQ
  exact ⟨rfl, rfl⟩

set_option maxHeartbeats 4000000 in
theorem countsW {h : AHeap} {p : PI} {n : Nat} {ws : List Nat} {lv : List (List Sm)} (K : PgV h p n ws lv) : CallP AP 21 [.ptr p.id 0 0] h fun r h' => HFrame h h' [] [] ∧ ∃ x, IsSum (fw ws) 0 (64 * ws.length) x ∧
    r = .tup [.int .i64 (sumR (rowsF (fw ws) n n 0) : Nat), .int .i64 (x.m : Int)] := by
  refine callP (rfl : Tr.get AP 21 = some A21) ?_
  generalize hQ : (fun (r : AVal) (h' : AHeap) => _) = Q
  have hn2 := K.n2
  obtain ⟨b1, b2, b3, b4, b5, b6⟩ := K.R.basic
  simp -implicitDefEqProofs (disch := first | decide | assumption | omega | (simp -implicitDefEqProofs only [AM.RN]; first | done | omega) | fail) only [↓AM.R0, AM.R1, AM.R2, Nat.reduceAdd, Nat.reduceLeDiff, Nat.reduceEqDiff, Int.reduceToNat, Nat.reduceLT, ↓reduceIte, Int.reduceEq, Int.reduceLT, Int.reduceLE]
  refine AM.callI_of runsW ?_
  rintro r h1 ⟨hh, rfl⟩
  simp -implicitDefEqProofs (disch := first | decide | assumption | omega | (simp -implicitDefEqProofs only [AM.RN]; first | done | omega) | fail) only [↓AM.R0, AM.R1, AM.R2, Nat.reduceAdd, Nat.reduceLeDiff, Nat.reduceEqDiff, Int.reduceToNat, Nat.reduceLT, ↓reduceIte, Int.reduceEq, Int.reduceLT, Int.reduceLE]
  generalize hE : Tr.set _ 10 (AVal.fn (Fn.func 84) [] [AVal.ptr (h.n + 1) 0 0]) = e
  have e0 : Env.val e 0 = AVal.ptr p.id 0 0 := by rw [← hE]; simp -implicitDefEqProofs (disch := first | decide | assumption | omega | (simp -implicitDefEqProofs only [AM.RN]; first | done | omega) | fail) only [↓AM.R0, AM.R1, AM.R2, Nat.reduceAdd, Nat.reduceLeDiff, Nat.reduceEqDiff, Int.reduceToNat, Nat.reduceLT, ↓reduceIte, Int.reduceEq, Int.reduceLT, Int.reduceLE]
  have e4 : Env.val e 4 = AVal.ptr h.n 0 0 := by rw [← hE]; simp -implicitDefEqProofs (disch := first | decide | assumption | omega | (simp -implicitDefEqProofs only [AM.RN]; first | done | omega) | fail) only [↓AM.R0, AM.R1, AM.R2, Nat.reduceAdd, Nat.reduceLeDiff, Nat.reduceEqDiff, Int.reduceToNat, Nat.reduceLT, ↓reduceIte, Int.reduceEq, Int.reduceLT, Int.reduceLE]
  clear hE
  have f1 : HFrame h h1 [] [] := by rw [hh]; exact (((HFrame.refl (h := h) (F := []) (by simp)).pushTmp _).setTmp (Nat.le_refl _) _).pushTmp _
  have n1 : h1.n = h.n + 2 := by rw [hh]; simp
  have g1 : h1.get h.n = .cells 0 false [.int .i64 0] := by rw [hh, AHeap.get_push_ne _ _ (by simp), AHeap.get_set_same]
  have g2 : h1.get (h.n + 1) = .cells 0 false [.ptr p.id 0 0] := by
    have : ((h.push (.cells 0 false [.int .i64 0])).set h.n (.cells 0 false [.int .i64 0])).n = h.n + 1 := by simp
    rw [hh, ← this, AHeap.get_push_same]
  clear hh
  rw [n1]
  generalize hLo : AObj.loop 0 none e [11, 12] _ _ = lo
  refine AM.rangeC_of (genW (p := p) (n := n) (ws := ws) hn2 (fun l h' => HFrame h h' [] [] ∧ h.n + 3 ≤ h'.n ∧ h'.get h.n = .cells 0 false [.int .i64 (sumR l : Nat)] ∧ h'.get (h.n + 1) = .cells 0 false [.ptr p.id 0 0] ∧
    h'.get (h.n + 2) = lo) (fun _ => False) ?_ ?_ ?_) ?_
  · exact fun l h' H => ⟨⟨lv, K.keep H.1⟩, H.2.2.2.1, by have := H.2.1; omega⟩
  · rintro l h' a k t ⟨f3, n3, q1, q2, q3⟩ hr
    have hsum : sumR l + k ≤ 4096 := by
      have z1 := sumR_rest l t a k
      rw [← hr] at z1
      have z2 := sum_rowsF K.out n 0
      omega
    have w1 : IntKind.i64.wrap (((sumR l : Nat) : Int) + (k : Int)) = ((sumR l + k : Nat) : Int) := (wrap64 (by omega) (by omega)).trans (by omega)
    rw [← hLo] at q3
    refine AM.yldP q3 rfl ?_
    simp only [AM.putAll]
    simp -implicitDefEqProofs (disch := first | decide | assumption | omega | (simp -implicitDefEqProofs only [AM.RN]; first | done | omega) | fail) only [↓AM.R0, AM.R1, AM.R2, Nat.reduceAdd, Nat.reduceLeDiff, Nat.reduceEqDiff, Int.reduceToNat, Nat.reduceLT, ↓reduceIte, Int.reduceEq, Int.reduceLT, Int.reduceLE]
    refine AM.asgQ_of q3 ?_
    simp -implicitDefEqProofs (disch := first | decide | assumption | omega | (simp -implicitDefEqProofs only [AM.RN]; first | done | omega) | fail) only [↓AM.R0, AM.R1, AM.R2, Nat.reduceAdd, Nat.reduceLeDiff, Nat.reduceEqDiff, Int.reduceToNat, Nat.reduceLT, ↓reduceIte, Int.reduceEq, Int.reduceLT, Int.reduceLE, e4, q1, w1]
    refine AM.roundQ_of (st := 1) (p2 := none) (e2 := e) (by rw [AHeap.get_set_ne _ _ (by omega), AHeap.get_set_same]) ?_
    refine .inl ⟨rfl, ((f3.setTmp (by omega) _).setTmp (Nat.le_refl _) _).setTmp (by omega) _, by simpa using n3, ?_, ?_, ?_⟩
    · rw [AHeap.get_set_ne _ _ (by omega), AHeap.get_set_same, sumR_app]
    · rw [AHeap.get_set_ne _ _ (by omega), AHeap.get_set_ne _ _ (by omega), AHeap.get_set_ne _ _ (by omega), q2]
    · rw [AHeap.get_set_same, ← hLo]; rfl
  · refine ⟨f1.pushTmp _, by simp [n1], ?_, ?_, ?_⟩
    · rw [AHeap.get_push_ne _ _ (by omega), g1]; rfl
    · rw [AHeap.get_push_ne _ _ (by omega), g2]
    · rw [← n1, AHeap.get_push_same]
  · rintro r h' (⟨f3, n3, q1, q2, q3⟩ | q)
    · rw [← hLo] at q3
      refine AM.rangeQ_of q3 (by decide) ?_
      simp only [AM.pendX]
      have f4 := f3.setTmp (i := h.n + 2) (by omega) (.loop 3 none e [11, 12] (ACode.region [⟨some 6, .op (.mov (.tmp 12)), none⟩]) (ACode.block 1 (ACode.region [⟨some 13, .op (.load none (.tmp 4)), none⟩, ⟨some 14, .op (.mov (.tmp 6)), none⟩, ⟨some 15, .op (.bin .add (.tmp 13) (.tmp 14)), none⟩, ⟨none, .op (.store 1 (.tmp 4) (.tmp 15)), none⟩])))
      have q4 : (h'.set (h.n + 2) (.loop 3 none e [11, 12] (ACode.region [⟨some 6, .op (.mov (.tmp 12)), none⟩]) (ACode.block 1 (ACode.region [⟨some 13, .op (.load none (.tmp 4)), none⟩, ⟨some 14, .op (.mov (.tmp 6)), none⟩, ⟨some 15, .op (.bin .add (.tmp 13) (.tmp 14)), none⟩, ⟨none, .op (.store 1 (.tmp 4) (.tmp 15)), none⟩])))).get h.n = .cells 0 false [.int .i64 (sumR (rowsF (fw ws) n n 0) : Nat)] := by
        rw [AHeap.get_set_ne _ _ (by omega), q1]
      generalize hS : h'.set (h.n + 2) _ = h4 at f4 q4 ⊢
      have K4 := K.keep f4
      obtain ⟨x, it, V, hlt, hit⟩ := K4.topS
      have gt := K4.R.lvl _ _ _ hlt hit
      have st := svals_at hlt hit
      have g1 := K4.R.obj
      have g3 := K4.R.sums
      have hne := K.ne
      have hle := K.le
      obtain ⟨b1, b2, b3, b4, b5, b6⟩ := K4.R.basic
      obtain ⟨c1, c2, c3, c4, c5⟩ := K4.R.mem hit
      have w1 : IntKind.i64.wrap ((lv.length : Int) - 1) = ((lv.length - 1 : Nat) : Int) := (wrap64 (by omega) (by omega)).trans (by omega)
      have x1 := ix1 g3 (len := lv.length) (i := lv.length - 1) (by omega)
      have x4 : ixV h4 4 (.sl it 0 0 1 4) (.int .i64 0) = some (.ptr it 0 0, h4) := ix4 gt (len := 1) (i := 0) (by omega)
      simp only [List.flatMap_cons, List.flatMap_nil, List.append_nil, encS] at gt
      simp only [List.length_cons, List.length_nil, Nat.zero_add] at st
      have hn4 : h.n < h4.n := by rw [← hS]; simp; omega
      simp -implicitDefEqProofs (disch := first | decide | assumption | omega | (simp -implicitDefEqProofs only [AM.RN]; first | done | omega) | fail) only [↓AM.R0, AM.R1, AM.R2, Nat.reduceAdd, Nat.reduceLeDiff, Nat.reduceEqDiff, Int.reduceToNat, Nat.reduceLT, ↓reduceIte, Int.reduceEq, Int.reduceLT, Int.reduceLE, e0, e4, q4, g1, g3, gt, st, w1, x1, x4]
      subst hQ
      exact ⟨f4, x, V, rfl⟩
    · exact q.elim
end Go.Proofs.YthillgheddpmhaaDoor.Pg

namespace Go.Proofs.YthillgheddpmhaaDoor.Pg
open Go Go.AM Go.Proofs.YthillgheddpmhaaDoor.AmGB
attribute [local irreducible] AM.wp AM.wpIs AM.wpTr AM.opI AM.gI AM.cI AM.trI AM.callI AM.fnI AM.yldI AM.rangeI AM.rangeC AM.YldP AM.asgQ AM.roundQ AM.rangeQ AM.trG AM.trOp AM.trCall AM.seqC AM.loopI
set_option maxRecDepth 100000
set_option linter.unusedVariables false
set_option linter.unusedSimpArgs false

def encN (n : Nat) : List AVal := [.int .i64 (n : Int)]
/-- Numbers in an object of their own, of which there may be more. -/
def SlW (h : AHeap) (v : AVal) (l : List Nat) (F : List Nat) : Prop :=
  (v = .nils ∧ l = [] ∧ F = []) ∨ ∃ id g off vs, v = .sl id g off l.length 1 ∧ h.get id = .cells g false vs ∧ id < h.n ∧ off + l.length ≤ vs.length ∧ (vs.drop off).take l.length = l.flatMap encN ∧ F = [id]
theorem flatN : ∀ l : List Nat, l.flatMap encN = l.map fun n : Nat => AVal.int .i64 (n : Int)
  | [] => rfl
  | a :: l => by rw [List.flatMap_cons, flatN l]; rfl
theorem SlW.of {h : AHeap} {v : AVal} {l F : List Nat} (s : SlOf h 1 encN v l F) : SlW h v l F := by
  rcases s with ⟨a, b, c⟩ | ⟨id, g, off, vs, a, b, c, d, e, f⟩
  · exact .inl ⟨a, b, c⟩
  · exact .inr ⟨id, g, off, vs, a, b, c, by omega, by rw [e, List.take_of_length_le]; rw [flatN, List.length_map]; omega, f⟩
theorem SlW.len {h : AHeap} {v : AVal} {l F : List Nat} (s : SlW h v l F) (h' : AHeap) : lenV h' v = some (.int .i64 l.length, h') := by
  rcases s with ⟨a, b, _⟩ | ⟨id, g, off, vs, a, _⟩
  · rw [a, b]; rfl
  · rw [a]; rfl
theorem SlW.frame {h h' : AHeap} {v : AVal} {l F : List Nat} (s : SlW h v l F) (hn : h.n ≤ h'.n) (k : ∀ j, j ∈ F → h'.get j = h.get j) : SlW h' v l F := by
  rcases s with ⟨a, b, c⟩ | ⟨id, g, off, vs, a, b, c, d, e, f⟩
  · exact .inl ⟨a, b, c⟩
  · exact .inr ⟨id, g, off, vs, a, by rw [k id (by simp [f])]; exact b, by omega, d, e, f⟩
theorem SlW.at {h : AHeap} {v : AVal} {l F : List Nat} (s : SlW h v l F) {i x : Nat} (hi : l[i]? = some x) :
    ∃ id g off vs, F = [id] ∧ v = .sl id g off l.length 1 ∧ h.get id = .cells g false vs ∧ id < h.n ∧ vs[off + i]? = some (.int .i64 (x : Int)) ∧ off + l.length ≤ vs.length ∧
      (∀ (h' : AHeap) (vs' : List AVal), h'.get id = .cells g false vs' → ixV h' 1 v (.int .i64 (i : Int)) = some (.ptr id g (off + i), h')) ∧
      (∀ (h' : AHeap) (y : Nat), h.n ≤ h'.n → h'.get id = .cells g false (vs.take (off + i) ++ [.int .i64 (y : Int)] ++ vs.drop (off + i + 1)) → SlW h' v (l.set i y) F) := by
  have hlt := (List.getElem?_eq_some_iff.1 hi).1
  rcases s with ⟨_, b, _⟩ | ⟨id, g, off, vs, a, b, c, d, e, f⟩
  · subst b; simp at hi
  · have hx : vs[off + i]? = some (.int .i64 (x : Int)) := by
      have : ((vs.drop off).take l.length)[i]? = some (.int .i64 (x : Int)) := by rw [e, flatN, List.getElem?_map, hi]; rfl
      rwa [List.getElem?_take, if_pos hlt, List.getElem?_drop] at this
    refine ⟨id, g, off, vs, f, a, b, c, hx, d, fun h' vs' g' => ?_, fun h' y hn g' => .inr ⟨id, g, off, _, by rw [a, List.length_set], g', by omega, ?_, ?_, f⟩⟩
    · rw [a]
      have := AM.ix_sl (k := .i64) (n := (i : Int)) (len := l.length) (esz := 1) (off := off) h' g' (by omega) (by omega)
      simpa using this
    · simp only [List.length_set, List.length_append, List.length_take, List.length_cons, List.length_nil, List.length_drop]; omega
    · rw [List.length_set, flatN, List.map_set, ← flatN, ← e]
      apply List.ext_getElem?
      intro m
      rw [List.getElem?_take, List.getElem?_drop]
      by_cases hm : m < l.length
      · rw [if_pos hm]
        by_cases em : i = m
        · subst em
          rw [List.getElem?_set_self (by rw [e, flatN, List.length_map]; exact hlt), List.append_assoc, List.getElem?_append_right (by rw [List.length_take]; omega), List.length_take, show off + i - min (off + i) vs.length = 0 by omega]
          rfl
        · rw [List.getElem?_set_ne em, List.getElem?_take, if_pos hm, List.getElem?_drop]
          rcases Nat.lt_or_ge m i with q | q
          · rw [List.append_assoc, List.getElem?_append_left (by rw [List.length_take]; omega), List.getElem?_take, if_pos (by omega)]
          · rw [List.append_assoc, List.getElem?_append_right (by rw [List.length_take]; omega), List.length_take, show off + m - min (off + i) vs.length = (m - i - 1) + 1 by omega]
            rw [List.cons_append, List.nil_append, List.getElem?_cons_succ, List.getElem?_drop, show off + i + 1 + (m - i - 1) = off + m by omega]
      · rw [if_neg hm, List.getElem?_set_ne (by omega), e, flatN, List.getElem?_eq_none (by rw [List.length_map]; omega)]
theorem SlW.rep {h : AHeap} {v : AVal} {l F : List Nat} (s : SlW h v l F) (hp : 0 < l.length) :
    ∃ id g off vs, F = [id] ∧ h.get id = .cells g false vs ∧ id < h.n ∧ (∀ (i x : Nat), l[i]? = some x → vs[off + i]? = some (.int .i64 (x : Int))) ∧ off + l.length ≤ vs.length ∧
      (∀ (h' : AHeap) (i : Nat) (vs' : List AVal), i < l.length → h'.get id = .cells g false vs' → ixV h' 1 v (.int .i64 (i : Int)) = some (.ptr id g (off + i), h')) ∧
      (∀ (h' : AHeap) (i y : Nat), i < l.length → h.n ≤ h'.n → h'.get id = .cells g false (vs.take (off + i) ++ [.int .i64 (y : Int)] ++ vs.drop (off + i + 1)) → SlW h' v (l.set i y) F) := by
  obtain ⟨id, g, off, vs, q1, q2, q3, q4, q5, q6, _⟩ := s.at (List.getElem?_eq_getElem hp)
  refine ⟨id, g, off, vs, q1, q3, q4, fun i x hi => ?_, q6, fun h' i vs' hi hg => ?_, fun h' i y hi hn hg => ?_⟩
  · obtain ⟨id', g', off', vs', q1', q2', q3', q4', q5', _⟩ := s.at hi
    rw [q2] at q2'; injection q2' with e1 e2 e3
    subst e1 e2 e3
    rw [q3] at q3'; injection q3' with _ _ e4
    subst e4
    exact q5'
  · obtain ⟨id', g', off', vs2, q1', q2', q3', q4', q5', _, q7, _⟩ := s.at (List.getElem?_eq_getElem hi)
    rw [q2] at q2'; injection q2' with e1 e2 e3
    subst e1 e2 e3
    exact q7 h' vs' hg
  · obtain ⟨id', g', off', vs2, q1', q2', q3', q4', q5', _, _, q8⟩ := s.at (List.getElem?_eq_getElem hi)
    rw [q2] at q2'; injection q2' with e1 e2 e3
    subst e1 e2 e3
    rw [q3] at q3'; injection q3' with _ _ e4
    subst e4
    exact q8 h' y hn hg
theorem SlW.cut {h : AHeap} {v : AVal} {l F : List Nat} (s : SlW h v l F) (hl : 0 < l.length) : ∃ v', slV h 1 v none (some (.int .i64 ((l.length - 1 : Nat) : Int))) = some (v', h) ∧ SlW h v' (l.take (l.length - 1)) F := by
  rcases s with ⟨_, b, _⟩ | ⟨id, g, off, vs, a, b, c, d, e, f⟩
  · subst b; simp at hl
  · refine ⟨.sl id g off (l.length - 1) 1, ?_, .inr ⟨id, g, off, vs, by rw [List.length_take]; congr 1; omega, b, c, by rw [List.length_take]; omega, ?_, f⟩⟩
    · rw [a, AM.sl_upto (h := h) b (by omega) (by omega), Int.toNat_natCast]
    · rw [List.length_take, Nat.min_eq_left (by omega), flatN, List.map_take, ← flatN, ← e, List.take_take, Nat.min_eq_left (by omega)]

/-- Rows that are used, told by two lists; what is told is all that is used. -/
structure Cov (f : Nat → Bool) (l1 l2 : List Nat) : Prop where
  len : l1.length = l2.length
  c1 : ∀ (i a k : Nat), l1[i]? = some a → l2[i]? = some k → 1 ≤ k ∧ a + k ≤ 4096 ∧ ∀ q, a ≤ q → q < a + k → f q = false
  c2 : ∀ q : Nat, q < 4096 → f q = false → ∃ i a k : Nat, l1[i]? = some a ∧ l2[i]? = some k ∧ a ≤ q ∧ q < a + k
  c3 : ∀ (i j a k b m : Nat), i ≠ j → l1[i]? = some a → l2[i]? = some k → l1[j]? = some b → l2[j]? = some m → a + k ≤ b ∨ b + m ≤ a
theorem app_at {l : List Nat} {x i y : Nat} (h : (l ++ [x])[i]? = some y) : (i < l.length ∧ l[i]? = some y) ∨ (i = l.length ∧ x = y) := by
  rcases Nat.lt_or_ge i l.length with c | c
  · rw [List.getElem?_append_left c] at h; exact .inl ⟨c, h⟩
  · rw [List.getElem?_append_right c] at h
    have hlt := (List.getElem?_eq_some_iff.1 h).1
    simp only [List.length_cons, List.length_nil] at hlt
    have e : i - l.length = 0 := by omega
    rw [e] at h
    exact .inr ⟨by omega, by simpa using h⟩
theorem Cov.app {f f' : Nat → Bool} {l1 l2 : List Nat} {x k : Nat} (C : Cov f l1 l2) (hk : 1 ≤ k) (hx : x + k ≤ 4096) (hb : ∀ (i a m : Nat), l1[i]? = some a → l2[i]? = some m → a + m ≤ x) (hf : ∀ q, f' q = if x ≤ q ∧ q < x + k then false else f q) : Cov f' (l1 ++ [x]) (l2 ++ [k]) := by
  have hl := C.len
  refine ⟨by simp [hl], fun i a m h1 h2 => ?_, fun q hq hfq => ?_, fun i j a m b o hij h1 h2 h3 h4 => ?_⟩
  · rcases app_at h1 with ⟨_, g1⟩ | ⟨e1, g1⟩ <;> rcases app_at h2 with ⟨_, g2⟩ | ⟨e2, g2⟩
    · obtain ⟨d1, d2, d3⟩ := C.c1 i a m g1 g2
      refine ⟨d1, d2, fun q q1 q2 => ?_⟩
      rw [hf]; split
      · rfl
      · exact d3 q q1 q2
    · omega
    · omega
    · subst g1 g2
      exact ⟨hk, hx, fun q q1 q2 => by rw [hf, if_pos ⟨q1, q2⟩]⟩
  · rw [hf] at hfq
    by_cases c : x ≤ q ∧ q < x + k
    · exact ⟨l1.length, x, k, by rw [List.getElem?_append_right (Nat.le_refl _)]; simp, by rw [hl, List.getElem?_append_right (Nat.le_refl _)]; simp, c.1, c.2⟩
    · rw [if_neg c] at hfq
      obtain ⟨i, a, m, h1, h2, h3⟩ := C.c2 q hq hfq
      have := (List.getElem?_eq_some_iff.1 h1).1
      have := (List.getElem?_eq_some_iff.1 h2).1
      exact ⟨i, a, m, by rw [List.getElem?_append_left (by omega)]; exact h1, by rw [List.getElem?_append_left (by omega)]; exact h2, h3⟩
  · rcases app_at h1 with ⟨_, g1⟩ | ⟨e1, g1⟩ <;> rcases app_at h2 with ⟨_, g2⟩ | ⟨e2, g2⟩ <;> rcases app_at h3 with ⟨_, g3⟩ | ⟨e3, g3⟩ <;> rcases app_at h4 with ⟨_, g4⟩ | ⟨e4, g4⟩ <;> first | omega | skip
    · exact C.c3 i j a m b o hij g1 g2 g3 g4
    · subst g3; exact .inl (hb _ _ _ g1 g2)
    · subst g1; exact .inr (hb _ _ _ g3 g4)
/-- The last in another's place. -/
theorem swap_at {l : List Nat} {j z : Nat} (hz : l[l.length - 1]? = some z) (hj : j < l.length) {i x : Nat} : ((l.set j z).take (l.length - 1))[i]? = some x ↔ i < l.length - 1 ∧ l[if i = j then l.length - 1 else i]? = some x := by
  rw [List.getElem?_take]
  by_cases c : i < l.length - 1
  · rw [if_pos c]
    by_cases e : i = j
    · subst e
      rw [if_pos rfl, List.getElem?_set_self hj, hz]; simp [c]
    · rw [if_neg e, List.getElem?_set_ne (Ne.symm e)]; simp [c]
  · rw [if_neg c]; simp [c]
theorem Cov.free {f f' : Nat → Bool} {l1 l2 : List Nat} (C : Cov f l1 l2) {j a k z1 z2 : Nat} (h1 : l1[j]? = some a) (h2 : l2[j]? = some k) (hz1 : l1[l1.length - 1]? = some z1) (hz2 : l2[l2.length - 1]? = some z2)
    (hf : ∀ q, f' q = if a ≤ q ∧ q < a + k then true else f q) : Cov f' ((l1.set j z1).take (l1.length - 1)) ((l2.set j z2).take (l2.length - 1)) := by
  have hl := C.len
  have hj1 := (List.getElem?_eq_some_iff.1 h1).1
  have hj2 := (List.getElem?_eq_some_iff.1 h2).1
  have ne : ∀ i, i < l1.length - 1 → (if i = j then l1.length - 1 else i) ≠ j := fun i hi => by split <;> omega
  have w1 : ∀ {i x : Nat}, ((l1.set j z1).take (l1.length - 1))[i]? = some x ↔ i < l1.length - 1 ∧ l1[if i = j then l1.length - 1 else i]? = some x := fun {i x} => swap_at hz1 hj1
  have w2 : ∀ {i x : Nat}, ((l2.set j z2).take (l2.length - 1))[i]? = some x ↔ i < l1.length - 1 ∧ l2[if i = j then l1.length - 1 else i]? = some x := fun {i x} => by rw [hl]; exact swap_at hz2 hj2
  refine ⟨by simp [hl], fun i b m g1 g2 => ?_, fun q hq hfq => ?_, fun i i2 b m c o hij g1 g2 g3 g4 => ?_⟩
  · obtain ⟨q0, g1⟩ := w1.1 g1
    obtain ⟨_, g2⟩ := w2.1 g2
    obtain ⟨d1, d2, d3⟩ := C.c1 _ _ _ g1 g2
    refine ⟨d1, d2, fun q q1 q2 => ?_⟩
    have := C.c3 _ _ _ _ _ _ (ne i q0) g1 g2 h1 h2
    rw [hf, if_neg (by omega)]
    exact d3 q q1 q2
  · rw [hf] at hfq
    by_cases c : a ≤ q ∧ q < a + k
    · rw [if_pos c] at hfq; cases hfq
    · rw [if_neg c] at hfq
      obtain ⟨i, b, m, g1, g2, g3, g4⟩ := C.c2 q hq hfq
      have hij : i ≠ j := by
        rintro rfl
        rw [h1] at g1; rw [h2] at g2
        simp only [Option.some.injEq] at g1 g2
        subst g1 g2
        exact c ⟨g3, g4⟩
      have hi := (List.getElem?_eq_some_iff.1 g1).1
      by_cases e : i = l1.length - 1
      · have ej : j < l1.length - 1 := by omega
        subst e
        exact ⟨j, b, m, w1.2 ⟨ej, by rw [if_pos rfl]; exact g1⟩, w2.2 ⟨ej, by rw [if_pos rfl]; exact g2⟩, g3, g4⟩
      · exact ⟨i, b, m, w1.2 ⟨by omega, by rw [if_neg hij]; exact g1⟩, w2.2 ⟨by omega, by rw [if_neg hij]; exact g2⟩, g3, g4⟩
  · obtain ⟨q0, g1⟩ := w1.1 g1
    obtain ⟨_, g2⟩ := w2.1 g2
    obtain ⟨q1, g3⟩ := w1.1 g3
    obtain ⟨_, g4⟩ := w2.1 g4
    refine C.c3 _ _ _ _ _ _ ?_ g1 g2 g3 g4
    split <;> split <;> omega
theorem all_free {f : Nat → Bool} {n : Nat} (h1 : 1 ≤ n) (hf : ∀ q, f q = decide (q < n)) : rowsF f n n 0 = [(0, n)] := by
  obtain ⟨m, rfl⟩ : ∃ m, n = m + 1 := ⟨n - 1, by omega⟩
  have hc : cntF f (m + 1 - 0) 0 = m + 1 := cntF_eq _ _ _ (fun t ht => by rw [hf]; exact decide_eq_true (by omega)) (by rw [hf]; exact decide_eq_false (by omega)) (by omega)
  rw [rowsF, if_pos (by omega), hc, if_pos (by omega)]
  cases m with
  | zero => rfl
  | succ m => rw [rowsF, if_neg (by omega)]; rfl
end Go.Proofs.YthillgheddpmhaaDoor.Pg

namespace Go.Proofs.YthillgheddpmhaaDoor.Pg
open Go Go.AM Go.Proofs.YthillgheddpmhaaDoor.AmGB
attribute [local irreducible] AM.wp AM.wpIs AM.wpTr AM.opI AM.gI AM.cI AM.trI AM.callI AM.fnI AM.yldI AM.rangeI AM.rangeC AM.YldP AM.asgQ AM.roundQ AM.rangeQ AM.trG AM.trOp AM.trCall AM.seqC AM.loopI
set_option maxRecDepth 100000
set_option linter.unusedVariables false
set_option linter.unusedSimpArgs false

theorem min_nat (a b : Nat) : min (a : Int) (b : Int) = ((min a b : Nat) : Int) := by omega
theorem PgV.keepD {h h' : AHeap} {A A' : List Nat} {p : PI} {n : Nat} {ws : List Nat} {lv : List (List Sm)} (K : PgV h p n ws lv) (f : HFrame h h' A A') (d : ∀ j, j ∈ p.F → j ∉ A) : PgV h' p n ws lv :=
  ⟨K.R.frame f.n fun j hj => f.get j (K.R.lt j hj) (d j hj), K.S, K.ne, K.le, K.top, K.V, K.n1, K.n2, K.wl, K.out⟩
set_option maxHeartbeats 8000000 in
theorem lawBack {h : AHeap} (T : TabR h) {v0 v1 : AVal} {zs os : List Int} (s0 : SlIn h 1 (fun x : Int => [.int .u8 x]) v0 zs) (s1 : SlIn h 1 (fun x : Int => [.int .u8 x]) v1 os) (hzs : ∀ x, x ∈ zs → 0 ≤ x ∧ x ≤ 255) (hos : ∀ x, x ∈ os → 0 ≤ x ∧ x ≤ 255)
    (hl0 : zs.length ≤ 9223372036854775807) (hl1 : os.length ≤ 9223372036854775807) :
    CallP AP 4 [v0, v1] h fun r h' => HFrame h h' [] [] ∧ r = .bool true := by
  refine callP (rfl : Tr.get AP 4 = some A4) ?_
  generalize hQ : (fun (r : AVal) (h' : AHeap) => _) = Q
  simp -implicitDefEqProofs (disch := first | decide | assumption | omega | (simp -implicitDefEqProofs only [AM.RN]; first | done | omega) | fail) only [↓AM.R0, AM.R1, AM.R2, Nat.reduceAdd, Nat.reduceLeDiff, Nat.reduceEqDiff, Int.reduceToNat, Nat.reduceLT, ↓reduceIte, Int.reduceEq, Int.reduceLT, Int.reduceLE]
  refine AM.callI_of (newW T 4096) ?_
  rintro r h1 (⟨c, _⟩ | ⟨_, _, p, ws, lv, f1, K, hf, rfl⟩)
  · exact absurd ⟨by decide, by decide⟩ c
  have h8 : (4096 : Int).toNat = 4096 := rfl
  rw [h8] at K hf
  have T1 := T.frame f1 (by simp)
  simp -implicitDefEqProofs (disch := first | decide | assumption | omega | (simp -implicitDefEqProofs only [AM.RN]; first | done | omega) | fail) only [↓AM.R0, AM.R1, AM.R2, Nat.reduceAdd, Nat.reduceLeDiff, Nat.reduceEqDiff, Int.reduceToNat, Nat.reduceLT, ↓reduceIte, Int.reduceEq, Int.reduceLT, Int.reduceLE]
  refine AM.callI_of (awakeW T1) ?_
  rintro r h2 ⟨f2, rfl⟩
  have K2 := K.keep f2
  have F2 : HFrame h h2 [] p.F := f1.trans (f2.wide (by simp) (by simp) K.R.lt)
  have wm : min (zs.length : Int) 200 = ((min zs.length 200 : Nat) : Int) := by omega
  obtain ⟨v2, e2, s2⟩ := s0.uptoAt (fun _ => rfl) (m := min zs.length 200) (by omega) .i64 (h1 := h2) (fun j hj => F2.get j hj (by simp))
  have hl2 : (zs.take (min zs.length 200)).length = min zs.length 200 := by rw [List.length_take]; omega
  simp -implicitDefEqProofs (disch := first | decide | assumption | omega | (simp -implicitDefEqProofs only [AM.RN]; first | done | omega) | fail) only [↓AM.R0, AM.R1, AM.R2, Nat.reduceAdd, Nat.reduceLeDiff, Nat.reduceEqDiff, Int.reduceToNat, Nat.reduceLT, ↓reduceIte, Int.reduceEq, Int.reduceLT, Int.reduceLE, s0.len, wm, e2, s2.len, hl2]
  generalize hm : min zs.length 200 = m at *
  have hm2 : m ≤ 200 := by omega
  refine AM.loopI_of (fun k e h' => ∃ (i nx : Nat) (ws : List Nat) (lv : List (List Sm)) (l1 l2 : List Nat) (sv1 sv2 : AVal) (G1 G2 : List Nat), k + i = m ∧ e.val 1 = v1 ∧ e.val 5 = .ptr p.id 0 0 ∧ e.val 7 = sv1 ∧ e.val 8 = sv2 ∧ e.val 9 = .int .i64 (nx : Int) ∧
    e.val 37 = v2 ∧ e.val 38 = .int .i64 (m : Int) ∧ e.val 39 = .int .i64 (i : Int) ∧ HFrame h h' [] (p.F ++ (G1 ++ G2)) ∧ PgV h' p 4096 ws lv ∧ SlOf h' 1 encN sv1 l1 G1 ∧ SlOf h' 1 encN sv2 l2 G2 ∧
    (∀ j, j ∈ p.F → j ∉ G1) ∧ (∀ j, j ∈ p.F → j ∉ G2) ∧ (∀ j, j ∈ G2 → j ∉ G1) ∧ l1.length = i ∧ nx ≤ 20 * i ∧ (∀ q, fw ws q = decide (nx ≤ q ∧ q < 4096)) ∧ Cov (fw ws) l1 l2 ∧ (∀ (i a m : Nat), l1[i]? = some a → l2[i]? = some m → a + m ≤ nx)) m ?_ ?_
  · refine ⟨0, 0, ws, lv, [], [], .nils, .nils, [], [], by omega, ?_, ?_, ?_, ?_, ?_, ?_, ?_, ?_, by simpa using F2, K2, SlOf.nil, SlOf.nil, by simp, by simp, by simp, rfl, by omega, fun q => by rw [hf]; exact decide_eq_decide.2 (by omega), ⟨rfl, fun i a k h => by simp at h, fun q hq hfq => ?_, fun i j a k b m _ h => by simp at h⟩, fun i a k h => by simp at h⟩ <;> first | (simp -implicitDefEqProofs (disch := first | decide | assumption | omega | (simp -implicitDefEqProofs only [AM.RN]; first | done | omega) | fail) only [↓AM.R0, AM.R1, AM.R2, Nat.reduceAdd, Nat.reduceLeDiff, Nat.reduceEqDiff, Int.reduceToNat, Nat.reduceLT, ↓reduceIte, Int.reduceEq, Int.reduceLT, Int.reduceLE]; done) | (simp -implicitDefEqProofs (disch := first | decide | assumption | omega | (simp -implicitDefEqProofs only [AM.RN]; first | done | omega) | fail) only [↓AM.R0, AM.R1, AM.R2, Nat.reduceAdd, Nat.reduceLeDiff, Nat.reduceEqDiff, Int.reduceToNat, Nat.reduceLT, ↓reduceIte, Int.reduceEq, Int.reduceLT, Int.reduceLE]; rfl) | skip
    rw [hf] at hfq; simp at hfq; omega
  clear F2 K2 T1 f2 K hf f1 ws lv
  rintro k e h3 ⟨i, nx, ws, lv, l1, l2, sv1, sv2, G1, G2, hk, e1, e5, e7, e8, e9, e37, e38, e39, F3, K, so1, so2, d1, d2, d3, hl1', hnx, hf, C, hB⟩
  have T3 := T.frame F3 (by simp)
  have hlen := C.len
  simp -implicitDefEqProofs (disch := first | decide | assumption | omega | (simp -implicitDefEqProofs only [AM.RN]; first | done | omega) | fail) only [↓AM.R0, AM.R1, AM.R2, Nat.reduceAdd, Nat.reduceLeDiff, Nat.reduceEqDiff, Int.reduceToNat, Nat.reduceLT, ↓reduceIte, Int.reduceEq, Int.reduceLT, Int.reduceLE, e38, e39]
  refine AM.cI_bool (fun hc => ?_) (fun hc => ?_)
  · simp only [decide_eq_true_eq] at hc
    obtain ⟨x, hx⟩ : ∃ x, (zs.take m)[i]? = some x := ⟨_, List.getElem?_eq_getElem (by omega)⟩
    obtain ⟨hx0, hx1⟩ := hzs x (List.mem_of_mem_take (List.mem_of_getElem? hx))
    obtain ⟨x, rfl⟩ : ∃ a : Nat, x = a := ⟨x.toNat, by omega⟩
    obtain ⟨id, g, off, vs, ro, x1, x2, x3, x4⟩ := ((s2.keep F3).rd hx).ix1 hx .i64
    have w1 : (x : Int).tmod 20 = ((x % 20 : Nat) : Int) := rfl
    have w2 : IntKind.i64.wrap ((x % 20 : Nat) : Int) = ((x % 20 : Nat) : Int) := wrap64 (by omega) (by omega)
    have w3 : IntKind.i64.wrap (((x % 20 : Nat) : Int) + 1) = ((x % 20 + 1 : Nat) : Int) := (wrap64 (by omega) (by omega)).trans (by omega)
    generalize hc' : x % 20 + 1 = c at *
    have hc1 : 1 ≤ c := by omega
    have hc2 : c ≤ 20 := by omega
    have hrow : Row (fw ws) nx c := fun t ht => by rw [hf]; exact decide_eq_true (by omega)
    simp -implicitDefEqProofs (disch := first | decide | assumption | omega | (simp -implicitDefEqProofs only [AM.RN]; first | done | omega) | fail) only [↓AM.R0, AM.R1, AM.R2, Nat.reduceAdd, Nat.reduceLeDiff, Nat.reduceEqDiff, Int.reduceToNat, Nat.reduceLT, ↓reduceIte, Int.reduceEq, Int.reduceLT, Int.reduceLE, e5, e37, e39, x1, x2, x4, w1, w2, w3]
    refine AM.callI_of (allocW T3 K (c : Int)) ?_
    rintro r h5 ⟨ws5, lv5, f5, K5, R5⟩
    obtain ⟨a, a1, a2, rfl⟩ := R5.here hc1 hrow
    have ha : a = nx := by
      have h1 := a1.le hrow
      have h2 := a1.1 0 (by omega)
      rw [hf] at h2
      have := of_decide_eq_true h2
      omega
    subst ha
    have F5 := F3.left f5
    have so1' := so1.frame f5.n fun j hj => f5.get j (so1.lt j hj) (fun hm => d1 j hm hj)
    have so2' := so2.frame f5.n fun j hj => f5.get j (so2.lt j hj) (fun hm => d2 j hm hj)
    simp -implicitDefEqProofs (disch := first | decide | assumption | omega | (simp -implicitDefEqProofs only [AM.RN]; first | done | omega) | fail) only [↓AM.R0, AM.R1, AM.R2, Nat.reduceAdd, Nat.reduceLeDiff, Nat.reduceEqDiff, Int.reduceToNat, Nat.reduceLT, ↓reduceIte, Int.reduceEq, Int.reduceLT, Int.reduceLE, e7, e8, e9]
    refine AM.opI_of (SlOf.app1 so1' (fun _ => rfl) (fun _ => rfl) (by omega) a fun sw1 h6 H1 so6 f6 => ?_)
    have K6 := K5.keepD f6 d1
    have d1' := f6.dis d1 K5.R.lt
    have d3' := f6.dis d3 so2'.lt
    have so2'' := so2'.frame f6.n fun j hj => f6.get j (so2'.lt j hj) (d3 j hj)
    have F6 := F5.right (f6.wide (G := G1 ++ G2) (G' := H1 ++ G2) (fun j hj => List.mem_append_left _ hj) (fun j hj => by rcases List.mem_append.1 hj with q | q; exact .inl q; exact .inr (List.mem_append_right _ q)) (fun j hj => F5.lt j (List.mem_append_right _ hj)))
    simp -implicitDefEqProofs (disch := first | decide | assumption | omega | (simp -implicitDefEqProofs only [AM.RN]; first | done | omega) | fail) only [↓AM.R0, AM.R1, AM.R2, Nat.reduceAdd, Nat.reduceLeDiff, Nat.reduceEqDiff, Int.reduceToNat, Nat.reduceLT, ↓reduceIte, Int.reduceEq, Int.reduceLT, Int.reduceLE, e8]
    refine AM.opI_of (SlOf.app1 so2'' (fun _ => rfl) (fun _ => rfl) (by omega) c fun sw2 h7 H2 so7 f7 => ?_)
    have d2' := f7.dis d2 K6.R.lt
    have d3'' := f7.dis (B := H1) (fun j hj hm => d3' j hm hj) so6.lt
    have so6' := so6.frame f7.n fun j hj => f7.get j (so6.lt j hj) (fun hm => d3' j hm hj)
    have K7 := K6.keepD f7 d2
    have F7 := F6.right (f7.wide (G := H1 ++ G2) (G' := H1 ++ H2) (fun j hj => List.mem_append_right _ hj) (fun j hj => by rcases List.mem_append.1 hj with q | q; exact .inr (List.mem_append_left _ q); exact .inl q) (fun j hj => F6.lt j (List.mem_append_right _ hj)))
    have w5 : IntKind.i64.wrap ((a : Int) + (c : Int)) = ((a + c : Nat) : Int) := (wrap64 (by omega) (by omega)).trans (by omega)
    have w6 : IntKind.i64.wrap ((i : Int) + 1) = ((i + 1 : Nat) : Int) := (wrap64 (by omega) (by omega)).trans (by omega)
    simp -implicitDefEqProofs (disch := first | decide | assumption | omega | (simp -implicitDefEqProofs only [AM.RN]; first | done | omega) | fail) only [↓AM.R0, AM.R1, AM.R2, Nat.reduceAdd, Nat.reduceLeDiff, Nat.reduceEqDiff, Int.reduceToNat, Nat.reduceLT, ↓reduceIte, Int.reduceEq, Int.reduceLT, Int.reduceLE, e9, e39, w5, w6]
    refine ⟨k - 1, by omega, i + 1, a + c, ws5, lv5, l1 ++ [a], l2 ++ [c], sw1, sw2, H1, H2, by omega, e1, e5, rfl, rfl, rfl, e37, e38, rfl, F7, K7, so6', so7, d1', d2', fun j hj hm => d3'' j hm hj, by rw [List.length_append, hl1']; rfl, by omega, fun q => ?_, C.app hc1 (by omega) hB a2, fun i' a' m' h1 h2 => ?_⟩
    · rw [a2, hf]
      by_cases q1 : a ≤ q ∧ q < a + c
      · rw [if_pos q1]; symm; exact decide_eq_false (by omega)
      · rw [if_neg q1]; exact decide_eq_decide.2 (by omega)
    · rcases app_at h1 with ⟨z1, g1⟩ | ⟨z1, rfl⟩ <;> rcases app_at h2 with ⟨z2, g2⟩ | ⟨z2, rfl⟩ <;> first | omega | skip
      have := hB _ _ _ g1 g2
      omega
  · clear hc e37 e38 e39 e9
    have sw1 := SlW.of so1
    have sw2 := SlW.of so2
    have hl200 : l1.length ≤ 200 := by omega
    simp -implicitDefEqProofs (disch := first | decide | assumption | omega | (simp -implicitDefEqProofs only [AM.RN]; first | done | omega) | fail) only [↓AM.R0, AM.R1, AM.R2, Nat.reduceAdd, Nat.reduceLeDiff, Nat.reduceEqDiff, Int.reduceToNat, Nat.reduceLT, ↓reduceIte, Int.reduceEq, Int.reduceLT, Int.reduceLE]
    refine AM.loopI_of (fun k e h' => ∃ (i : Nat) (ws : List Nat) (lv : List (List Sm)) (l1 l2 : List Nat) (sv1 sv2 : AVal), k = l1.length ∧ i + k ≤ 200 ∧ e.val 1 = v1 ∧ e.val 5 = .ptr p.id 0 0 ∧ e.val 7 = sv1 ∧ e.val 8 = sv2 ∧
      e.val 15 = .int .i64 (i : Int) ∧ HFrame h h' [] (p.F ++ (G1 ++ G2)) ∧ PgV h' p 4096 ws lv ∧ SlW h' sv1 l1 G1 ∧ SlW h' sv2 l2 G2 ∧ Cov (fw ws) l1 l2) l1.length ?_ ?_
    · refine ⟨0, ws, lv, l1, l2, sv1, sv2, rfl, by omega, ?_, ?_, ?_, ?_, ?_, F3, K, sw1, sw2, C⟩ <;> first | (simp -implicitDefEqProofs (disch := first | decide | assumption | omega | (simp -implicitDefEqProofs only [AM.RN]; first | done | omega) | fail) only [↓AM.R0, AM.R1, AM.R2, Nat.reduceAdd, Nat.reduceLeDiff, Nat.reduceEqDiff, Int.reduceToNat, Nat.reduceLT, ↓reduceIte, Int.reduceEq, Int.reduceLT, Int.reduceLE, e1, e5, e7, e8]; done) | (simp -implicitDefEqProofs (disch := first | decide | assumption | omega | (simp -implicitDefEqProofs only [AM.RN]; first | done | omega) | fail) only [↓AM.R0, AM.R1, AM.R2, Nat.reduceAdd, Nat.reduceLeDiff, Nat.reduceEqDiff, Int.reduceToNat, Nat.reduceLT, ↓reduceIte, Int.reduceEq, Int.reduceLT, Int.reduceLE]; rfl)
    clear e1 e5 e7 e8 sw1 sw2 so1 so2 hl1' hnx hf C hB hlen T3 K F3 hl200 hk
    rintro k e h4 ⟨i, ws4, lv4, l1, l2, sv1, sv2, hk, hik, e1, e5, e7, e8, e15, F4, K4, sw1, sw2, C⟩
    have T4 := T.frame F4 (by simp)
    have hlen := C.len
    have dpos : decide ((0 : Int) < (l1.length : Int)) = decide (0 < l1.length) := decide_eq_decide.2 (by omega)
    simp -implicitDefEqProofs (disch := first | decide | assumption | omega | (simp -implicitDefEqProofs only [AM.RN]; first | done | omega) | fail) only [↓AM.R0, AM.R1, AM.R2, Nat.reduceAdd, Nat.reduceLeDiff, Nat.reduceEqDiff, Int.reduceToNat, Nat.reduceLT, ↓reduceIte, Int.reduceEq, Int.reduceLT, Int.reduceLE, e7, sw1.len]
    rw [dpos]
    refine AM.cI_bool (fun hc => ?_) (fun hc => ?_)
    · have hpos : 0 < l1.length := of_decide_eq_true hc
      simp -implicitDefEqProofs (disch := first | decide | assumption | omega | (simp -implicitDefEqProofs only [AM.RN]; first | done | omega) | fail) only [↓AM.R0, AM.R1, AM.R2, Nat.reduceAdd, Nat.reduceLeDiff, Nat.reduceEqDiff, Int.reduceToNat, Nat.reduceLT, ↓reduceIte, Int.reduceEq, Int.reduceLT, Int.reduceLE, e1, e15, s1.len]
      refine AM.cI_cut (fun e' h' => h' = h4 ∧ ∃ j : Nat, j < l1.length ∧ e'.val 1 = v1 ∧ e'.val 5 = .ptr p.id 0 0 ∧ e'.val 7 = sv1 ∧ e'.val 8 = sv2 ∧ e'.val 15 = .int .i64 (i : Int) ∧ e'.val 16 = .int .i64 (j : Int)) ?_ ?_
      · clear e1 e5 e7 e8 e15
        rintro e h' ⟨hh, j, hj, e1, e5, e7, e8, e15, e16⟩
        rw [hh]
        obtain ⟨a, ha⟩ : ∃ a, l1[j]? = some a := ⟨_, List.getElem?_eq_getElem hj⟩
        obtain ⟨m, hm⟩ : ∃ a, l2[j]? = some a := ⟨_, List.getElem?_eq_getElem (by omega)⟩
        obtain ⟨c1, c2, c3⟩ := C.c1 _ _ _ ha hm
        obtain ⟨id1, g1, o1, vs1, hG1, y2, y3, y4, y5, y6, y7⟩ := sw1.rep (by omega)
        obtain ⟨id2, g2, o2, vs2, hG2, z2, z3, z4, z5, z6, z7⟩ := sw2.rep (by omega)
        have x1 := y6 h4 j _ hj y2
        have x2 := z6 h4 j _ (by omega) z2
        have ya := y4 j a ha
        have za := z4 j m hm
        have n1 : id1 ∉ p.F := fun hm => d1 _ hm (by simp [hG1])
        have n2 : id2 ∉ p.F := fun hm => d2 _ hm (by simp [hG2])
        have n3 : id2 ≠ id1 := fun e => d3 id2 (by simp [hG2]) (by simp [hG1, e])
        simp -implicitDefEqProofs (disch := first | decide | assumption | omega | (simp -implicitDefEqProofs only [AM.RN]; first | done | omega) | fail) only [↓AM.R0, AM.R1, AM.R2, Nat.reduceAdd, Nat.reduceLeDiff, Nat.reduceEqDiff, Int.reduceToNat, Nat.reduceLT, ↓reduceIte, Int.reduceEq, Int.reduceLT, Int.reduceLE, e5, e7, e8, e16, x1, x2, y2, z2, ya, za]
        refine AM.trCall_of (freeW T4 K4 (a : Int) (m : Int)) ?_
        rintro r h5 ⟨ws5, lv5, f5, K5, R5⟩
        obtain ⟨d5, rfl⟩ := R5.yes c1 c2 c3
        have T5 := T4.frame f5 K4.R.n0
        have y2' := (f5.get id1 y3 n1).trans y2
        have z2' := (f5.get id2 z3 n2).trans z2
        have hn5 := f5.n
        have x1' := y6 h5 j _ hj y2'
        have x2' := z6 h5 j _ (by omega) z2'
        simp -implicitDefEqProofs (disch := first | decide | assumption | omega | (simp -implicitDefEqProofs only [AM.RN]; first | done | omega) | fail) only [↓AM.R0, AM.R1, AM.R2, Nat.reduceAdd, Nat.reduceLeDiff, Nat.reduceEqDiff, Int.reduceToNat, Nat.reduceLT, ↓reduceIte, Int.reduceEq, Int.reduceLT, Int.reduceLE, e5, e7, e8, e16, x1, x2, x1', x2', y2, z2, ya, za, y2', z2']
        refine AM.trCall_of (freeW T5 K5 (a : Int) (m : Int)) ?_
        rintro r h6 ⟨ws6, lv6, f6, K6, R6⟩
        obtain ⟨rfl, rfl⟩ := R6.no c1 c2 (q := a) (Nat.le_refl _) (by omega) (by rw [d5, if_pos (by omega)])
        have y2'' := (f6.get id1 (by omega) n1).trans y2'
        have z2'' := (f6.get id2 (by omega) n2).trans z2'
        have hn6 := f6.n
        obtain ⟨b, hb⟩ : ∃ a, l1[l1.length - 1]? = some a := ⟨_, List.getElem?_eq_getElem (by omega)⟩
        obtain ⟨o, ho⟩ : ∃ a, l2[l2.length - 1]? = some a := ⟨_, List.getElem?_eq_getElem (by omega)⟩
        simp -implicitDefEqProofs (disch := first | decide | assumption | omega | (simp -implicitDefEqProofs only [AM.RN]; first | done | omega) | fail) only [↓AM.R0, AM.R1, AM.R2, Nat.reduceAdd, Nat.reduceLeDiff, Nat.reduceEqDiff, Int.reduceToNat, Nat.reduceLT, ↓reduceIte, Int.reduceEq, Int.reduceLT, Int.reduceLE, e5, e7, e8, e16, x1, x2, x1', x2', y2, z2, ya, za, y2', z2', y2'', z2'']
        have hjl : o1 + j + 1 ≤ vs1.length := by omega
        have hjl2 : o2 + j + 1 ≤ vs2.length := by omega
        have w8 : IntKind.i64.wrap ((l1.length : Int) - 1) = ((l1.length - 1 : Nat) : Int) := (wrap64 (by omega) (by omega)).trans (by omega)
        have w9 : IntKind.i64.wrap ((l2.length : Int) - 1) = ((l2.length - 1 : Nat) : Int) := (wrap64 (by omega) (by omega)).trans (by omega)
        have yb := y4 _ b hb
        have zb := z4 _ o ho
        have x3 := y6 h6 j _ hj y2''
        have x4 := y6 h6 (l1.length - 1) _ (by omega) y2''
        have F6 := (F4.left f5).left f6
        have hi1 : id1 < h6.n := by omega
        have hi2 : id2 < h6.n := by omega
        have f7 := HFrame.set h6 id1 (.cells g1 false (vs1.take (o1 + j) ++ [.int .i64 (b : Int)] ++ vs1.drop (o1 + j + 1))) (F := G1 ++ G2) (by simp [hG1]) (fun j hj => F6.lt j (List.mem_append_right _ hj))
        have t1 := AHeap.get_set_same h6 id1 (.cells g1 false (vs1.take (o1 + j) ++ [.int .i64 (b : Int)] ++ vs1.drop (o1 + j + 1)))
        have t2 := (AHeap.get_set_ne h6 (.cells g1 false (vs1.take (o1 + j) ++ [.int .i64 (b : Int)] ++ vs1.drop (o1 + j + 1))) n3).trans z2''
        have hn7 : (h6.set id1 (.cells g1 false (vs1.take (o1 + j) ++ [.int .i64 (b : Int)] ++ vs1.drop (o1 + j + 1)))).n = h6.n := by simp
        have F7 := F6.right f7
        have K7 := K6.keepD f7 (fun j hj hm => by rcases List.mem_append.1 hm with q | q; exact d1 j hj q; exact d2 j hj q)
        simp -implicitDefEqProofs (disch := first | decide | assumption | omega | (simp -implicitDefEqProofs only [AM.RN]; first | done | omega) | fail) only [↓AM.R0, AM.R1, AM.R2, Nat.reduceAdd, Nat.reduceLeDiff, Nat.reduceEqDiff, Int.reduceToNat, Nat.reduceLT, ↓reduceIte, Int.reduceEq, Int.reduceLT, Int.reduceLE, e5, e7, e8, e16, sw1.len, w8, x3, x4, y2'', yb, hjl]
        generalize h6.set id1 (.cells g1 false (vs1.take (o1 + j) ++ [.int .i64 (b : Int)] ++ vs1.drop (o1 + j + 1))) = h7 at *
        have x5 := z6 h7 j _ (by omega) t2
        have x6 := z6 h7 (l2.length - 1) _ (by omega) t2
        have f8 := HFrame.set h7 id2 (.cells g2 false (vs2.take (o2 + j) ++ [.int .i64 (o : Int)] ++ vs2.drop (o2 + j + 1))) (F := G1 ++ G2) (by simp [hG2]) (fun j hj => F7.lt j (List.mem_append_right _ hj))
        have t3 := AHeap.get_set_same h7 id2 (.cells g2 false (vs2.take (o2 + j) ++ [.int .i64 (o : Int)] ++ vs2.drop (o2 + j + 1)))
        have t4 := (AHeap.get_set_ne h7 (.cells g2 false (vs2.take (o2 + j) ++ [.int .i64 (o : Int)] ++ vs2.drop (o2 + j + 1))) (Ne.symm n3)).trans t1
        have hn8 : (h7.set id2 (.cells g2 false (vs2.take (o2 + j) ++ [.int .i64 (o : Int)] ++ vs2.drop (o2 + j + 1)))).n = h7.n := by simp
        have F8 := F7.right f8
        have K8 := K7.keepD f8 (fun j hj hm => by rcases List.mem_append.1 hm with q | q; exact d1 j hj q; exact d2 j hj q)
        have hi7 : id2 < h7.n := by omega
        simp -implicitDefEqProofs (disch := first | decide | assumption | omega | (simp -implicitDefEqProofs only [AM.RN]; first | done | omega) | fail) only [↓AM.R0, AM.R1, AM.R2, Nat.reduceAdd, Nat.reduceLeDiff, Nat.reduceEqDiff, Int.reduceToNat, Nat.reduceLT, ↓reduceIte, Int.reduceEq, Int.reduceLT, Int.reduceLE, e5, e7, e8, e16, sw2.len, w9, x5, x6, t2, zb, hjl2]
        generalize h7.set id2 (.cells g2 false (vs2.take (o2 + j) ++ [.int .i64 (o : Int)] ++ vs2.drop (o2 + j + 1))) = h8 at *
        have su1 := y7 h8 j b hj (by omega) t4
        have su2 := z7 h8 j o (by omega) (by omega) t3
        obtain ⟨u1, cu1, sc1⟩ := su1.cut (by rw [List.length_set]; omega)
        obtain ⟨u2, cu2, sc2⟩ := su2.cut (by rw [List.length_set]; omega)
        rw [List.length_set] at cu1 cu2 sc1 sc2
        have w10 : IntKind.i64.wrap ((i : Int) + 1) = ((i + 1 : Nat) : Int) := (wrap64 (by omega) (by omega)).trans (by omega)
        simp -implicitDefEqProofs (disch := first | decide | assumption | omega | (simp -implicitDefEqProofs only [AM.RN]; first | done | omega) | fail) only [↓AM.R0, AM.R1, AM.R2, Nat.reduceAdd, Nat.reduceLeDiff, Nat.reduceEqDiff, Int.reduceToNat, Nat.reduceLT, ↓reduceIte, Int.reduceEq, Int.reduceLT, Int.reduceLE, e7, e8, e15, sw1.len, sw2.len, w8, w9, cu1, cu2, w10]
        refine ⟨k - 1, by omega, i + 1, ws6, lv6, _, _, u1, u2, by rw [List.length_take, List.length_set]; omega, by omega, e1, e5, rfl, rfl, rfl, F8, K8, sc1, sc2, C.free ha hm hb ho ?_⟩
        intro q
        rw [d5]; rfl
      · refine AM.cI_bool (fun hd => ?_) (fun hd => ?_)
        · simp only [decide_eq_true_eq] at hd
          obtain ⟨x, hx⟩ : ∃ x, os[i]? = some x := ⟨_, List.getElem?_eq_getElem (by omega)⟩
          obtain ⟨hx0, hx1⟩ := hos x (List.mem_of_getElem? hx)
          obtain ⟨x, rfl⟩ : ∃ a : Nat, x = a := ⟨x.toNat, by omega⟩
          obtain ⟨id, g, off, vs, ro, x1, x2, x3, x4⟩ := ((s1.keep F4).rd hx).ix1 hx .i64
          have w1 : IntKind.i64.wrap (x : Int) = (x : Int) := wrap64 (by omega) (by omega)
          have w2 : (x : Int).tmod (l1.length : Int) = ((x % l1.length : Nat) : Int) := rfl
          simp -implicitDefEqProofs (disch := first | decide | assumption | omega | (simp -implicitDefEqProofs only [AM.RN]; first | done | omega) | fail) only [↓AM.R0, AM.R1, AM.R2, Nat.reduceAdd, Nat.reduceLeDiff, Nat.reduceEqDiff, Int.reduceToNat, Nat.reduceLT, ↓reduceIte, Int.reduceEq, Int.reduceLT, Int.reduceLE, e1, e5, e7, e8, e15, x1, x2, x4, w1, w2, sw1.len]
          exact ⟨x % l1.length, Nat.mod_lt _ hpos, rfl⟩
        · simp -implicitDefEqProofs (disch := first | decide | assumption | omega | (simp -implicitDefEqProofs only [AM.RN]; first | done | omega) | fail) only [↓AM.R0, AM.R1, AM.R2, Nat.reduceAdd, Nat.reduceLeDiff, Nat.reduceEqDiff, Int.reduceToNat, Nat.reduceLT, ↓reduceIte, Int.reduceEq, Int.reduceLT, Int.reduceLE, e1, e5, e7, e8, e15]
          exact ⟨0, hpos, rfl⟩
    · have hnil : l1 = [] := by
        have := of_decide_eq_false hc
        exact List.eq_nil_of_length_eq_zero (by omega)
      have hall : ∀ q, fw ws4 q = decide (q < 4096) := fun q => by
        rcases Nat.lt_or_ge q 4096 with c | c
        · cases hq : fw ws4 q with
          | true => exact (decide_eq_true c).symm
          | false =>
            obtain ⟨i, a, k, h1, _⟩ := C.c2 q c hq
            rw [hnil] at h1; simp at h1
        · rw [K4.out q c]; exact (decide_eq_false (by omega)).symm
      simp -implicitDefEqProofs (disch := first | decide | assumption | omega | (simp -implicitDefEqProofs only [AM.RN]; first | done | omega) | fail) only [↓AM.R0, AM.R1, AM.R2, Nat.reduceAdd, Nat.reduceLeDiff, Nat.reduceEqDiff, Int.reduceToNat, Nat.reduceLT, ↓reduceIte, Int.reduceEq, Int.reduceLT, Int.reduceLE, e5]
      refine AM.callI_of (countsW K4) ?_
      rintro r h9 ⟨f9, x, V, rfl⟩
      have hwl : ws4.length = 64 := K4.wl
      have r1 : sumR (rowsF (fw ws4) 4096 4096 0) = 4096 := by rw [all_free (by decide) hall]; rfl
      have r2 : x.m = 4096 := by
        have m2 := V.m2 0 4096 (Nat.le_refl _) (by omega) (fun t ht => by rw [hall]; exact decide_eq_true (by omega))
        obtain ⟨q, q1, q2, q3⟩ := V.m1
        omega
      rw [r1, r2]
      simp -implicitDefEqProofs (disch := first | decide | assumption | omega | (simp -implicitDefEqProofs only [AM.RN]; first | done | omega) | fail) only [↓AM.R0, AM.R1, AM.R2, Nat.reduceAdd, Nat.reduceLeDiff, Nat.reduceEqDiff, Int.reduceToNat, Nat.reduceLT, ↓reduceIte, Int.reduceEq, Int.reduceLT, Int.reduceLE]
      have dd : decide (((4096 : Nat) : Int) = 4096) = true := rfl
      simp -implicitDefEqProofs (disch := first | decide | assumption | omega | (simp -implicitDefEqProofs only [AM.RN]; first | done | omega) | fail) only [↓AM.R0, AM.R1, AM.R2, Nat.reduceAdd, Nat.reduceLeDiff, Nat.reduceEqDiff, Int.reduceToNat, Nat.reduceLT, ↓reduceIte, Int.reduceEq, Int.reduceLT, Int.reduceLE, dd]
      subst hQ
      exact ⟨HFrame.non (F4.trans (f9.wide (by simp) (fun j hj => .inr hj) F4.lt)), rfl⟩
end Go.Proofs.YthillgheddpmhaaDoor.Pg

