/-
  What the functions of this seat do, on the machine: lemmas for the laws.
-/
import Derived.Test.YthillgheddpmhaaDoorAmNK
import Derived.Test.YthillgheddpmhaaDoorAmND1
namespace Go.Proofs.YthillgheddpmhaaDoor.Pg
open Go Go.AM Go.Proofs.YthillgheddpmhaaDoor.AmGN
attribute [local irreducible] AM.wp AM.wpIs AM.wpTr AM.opI AM.gI AM.cI AM.trI AM.callI AM.fnI AM.yldI AM.rangeI AM.rangeC AM.YldP AM.asgQ AM.roundQ AM.rangeQ AM.trG AM.trOp AM.trCall AM.seqC AM.loopI
set_option maxRecDepth 100000
set_option linter.unusedVariables false
set_option linter.unusedSimpArgs false

set_option maxHeartbeats 8000000 in
theorem rsAlloc {h : AHeap} {u r b n : Nat} {f : Nat → Bool} {L : List Sp} {v : AVal} {G : List Nat} (R : RTab h u r b n f L v G) (k tag : Int) : CallP AP 38 [.ptr u 0 0, .int .i64 k, .int .i64 tag] h fun w h' => ∃ g L' v' G', HFrame h h' ([u, r, b] ++ G) ([u, r, b] ++ G') ∧ RTab h' u r b n g L' v' G' ∧ AllocS f g L L' k tag w := by
  refine callP (rfl : Tr.get AP 38 = some A38) ?_
  generalize hQ : (fun (r : AVal) (h' : AHeap) => _) = Q
  have hn2 := R.R.n2
  have hLn := R.I.len
  have flt := R.flt
  have g1 := R.obj
  have lu := R.lu
  have hrl := R.R.lr
  have hbl := R.R.lb
  have f0 := (HFrame.refl (h := h) (F := []) (by simp)).pushTmp (.cells 0 false [.int .i64 0, .int .i64 0, .int .i64 0])
  have g0 : (h.push (.cells 0 false [.int .i64 0, .int .i64 0, .int .i64 0])).get h.n = .cells 0 false [.int .i64 0, .int .i64 0, .int .i64 0] := AHeap.get_push_same _ _
  have n0 : (h.push (.cells 0 false [.int .i64 0, .int .i64 0, .int .i64 0])).n = h.n + 1 := by simp
  have R0 := R.keep f0
  simp -implicitDefEqProofs (disch := first | decide | assumption | omega | (simp -implicitDefEqProofs only [AM.RN]; first | done | omega) | fail) only [↓AM.R0, AM.R1, AM.R2, Nat.reduceAdd, Nat.reduceLeDiff, Nat.reduceEqDiff, Int.reduceToNat, Nat.reduceLT, ↓reduceIte, Int.reduceEq, Int.reduceLT, Int.reduceLE, g1]
  generalize h.push (.cells 0 false [.int .i64 0, .int .i64 0, .int .i64 0]) = ha at *
  refine AM.callI_of (rAlloc R0.R k) ?_
  rintro w h2 ⟨g, f2, R2, A2⟩
  have W0 := f0.wide (G := [u, r, b] ++ G) (G' := [u, r, b] ++ G) (by simp) (fun j hj => .inr hj) flt
  have W2 := W0.trans (f2.wide (G := [u, r, b] ++ G) (G' := [u, r, b] ++ G) (by simp) (fun j hj => .inr hj) W0.lt)
  have n2 := f2.n
  have gc := (f2.get h.n (by omega) (by simp; omega)).trans g0
  have lc : h.n < h2.n := by omega
  have so2 := R0.so.frame f2.n fun j hj => f2.get j (R0.so.lt j hj) (fun hm => R.nG.2.2 (by simp at hm; rwa [← hm]))
  have gu2 := (f2.get u (by omega) (by simp; exact R.ne.2)).trans R0.obj
  have bad : ∀ e : Int, e ≠ 0 → w = .tup [.int .i64 0, .int .i64 e] → g = f → Q (.tup [.agg (encT zSp), .int .i64 e]) (h2.set h.n (.cells 0 false (encT zSp))) := fun e he hv hg => by
    subst hQ
    have ft := (HFrame.refl (h := h2) (F := [h.n]) (by simpa using lc))
    have fz := HFrame.set h2 h.n (.cells 0 false (encT zSp)) (F := [h.n]) (by simp) (by simpa using lc)
    have RT : RTab h2 u r b n g L v G := ⟨R2, by rw [hg]; exact R.I, gu2, so2, by omega, R.ne, R.nG⟩
    exact ⟨g, L, v, G, W2.setTmp (Nat.le_refl _) _, RT.keepD fz (fun j hj hm => by simp at hm; have := flt j hj; omega), w, A2, .inl ⟨e, he, hv, rfl, rfl⟩⟩
  rcases A2' : A2 with ⟨c1, c2, hw⟩ | ⟨c1, c3, c2, hw⟩ | ⟨c1, a, c2, c3, hw⟩
  · rw [hw]
    simp -implicitDefEqProofs (disch := first | decide | assumption | omega | (simp -implicitDefEqProofs only [AM.RN]; first | done | omega) | fail) only [↓AM.R0, AM.R1, AM.R2, Nat.reduceAdd, Nat.reduceLeDiff, Nat.reduceEqDiff, Int.reduceToNat, Nat.reduceLT, ↓reduceIte, Int.reduceEq, Int.reduceLT, Int.reduceLE, gc, res_ct, retT_some]
    exact bad 1 (by decide) hw c2
  · rw [hw]
    simp -implicitDefEqProofs (disch := first | decide | assumption | omega | (simp -implicitDefEqProofs only [AM.RN]; first | done | omega) | fail) only [↓AM.R0, AM.R1, AM.R2, Nat.reduceAdd, Nat.reduceLeDiff, Nat.reduceEqDiff, Int.reduceToNat, Nat.reduceLT, ↓reduceIte, Int.reduceEq, Int.reduceLT, Int.reduceLE, gc, res_ct, retT_some]
    exact bad 3 (by decide) hw c2
  · clear bad
    clear A2'
    subst hw
    obtain ⟨k, rfl⟩ : ∃ x : Nat, k = x := ⟨k.toNat, by omega⟩
    rw [Int.toNat_natCast] at c2 c3
    have hk1 : 1 ≤ k := by omega
    have hlt : a + k ≤ n := by
      rcases Nat.lt_or_ge n (a + k) with q | q
      · have h1 := c2.1 (k - 1) (by omega)
        rw [R.R.out _ (by omega)] at h1; cases h1
      · exact q
    have hfree : ∀ q, a ≤ q → q < a + k → f q = true := fun q q1 q2 => by have := c2.1 (q - a) (by omega); rwa [show a + (q - a) = q by omega] at this
    have J : SInv n g (insF L ⟨a, k, tag⟩) := R.I.ins (s := ⟨a, k, tag⟩) hk1 hlt hfree c3
    have fb := ((HFrame.refl (h := h2) (F := []) (by simp)).pushTmp (.cells 0 false [.int .i64 0, .int .i64 0, .int .i64 0])).setTmp (i := h2.n) (Nat.le_refl _) (.cells 0 false (encT ⟨a, k, tag⟩))
    have gB : ((h2.push (.cells 0 false [.int .i64 0, .int .i64 0, .int .i64 0])).set h2.n (.cells 0 false (encT ⟨a, k, tag⟩))).get h2.n = .cells 0 false (encT ⟨a, k, tag⟩) := AHeap.get_set_same _ _ _
    have nB : ((h2.push (.cells 0 false [.int .i64 0, .int .i64 0, .int .i64 0])).set h2.n (.cells 0 false (encT ⟨a, k, tag⟩))).n = h2.n + 1 := by simp
    simp only [encT] at fb gB nB
    simp -implicitDefEqProofs (disch := first | decide | assumption | omega | (simp -implicitDefEqProofs only [AM.RN]; first | done | omega) | fail) only [↓AM.R0, AM.R1, AM.R2, Nat.reduceAdd, Nat.reduceLeDiff, Nat.reduceEqDiff, Int.reduceToNat, Nat.reduceLT, ↓reduceIte, Int.reduceEq, Int.reduceLT, Int.reduceLE]
    generalize (h2.push (.cells 0 false [.int .i64 0, .int .i64 0, .int .i64 0])).set h2.n (.cells 0 false [.int .i64 (a : Int), .int .i64 (k : Int), .int .i64 tag]) = h3 at *
    have R3 := R2.keepD fb (by simp) (by simp)
    have gu3 := (fb.get u (by omega) (by simp)).trans gu2
    have gc3 := (fb.get h.n lc (by simp)).trans gc
    have so3 := so2.frame fb.n fun j hj => fb.get j (so2.lt j hj) (by simp)
    have W3 := W2.trans (fb.wide (by simp) (fun j hj => .inr hj) W2.lt)
    have lu3 : u < h3.n := by omega
    refine AM.loopI_of (fun m e h' => ∃ (i : Nat) (d : Bool) (sv : AVal) (H : List Nat) (O : List Sp), m + i = L.length ∧ e.val 0 = .ptr u 0 0 ∧ e.val 6 = .ptr h.n 0 0 ∧ e.val 8 = .int .i64 (a : Int) ∧ e.val 10 = .ptr h2.n 0 0 ∧ e.val 11 = sv ∧ e.val 12 = .bool d ∧ e.val 13 = .int .i64 (i : Int) ∧ HFrame h3 h' [] H ∧
      SlOf h' 3 encT sv O H ∧ (d = false → O = L.take i ∧ ∀ t, t ∈ L.take i → t.a ≤ a) ∧ (d = true → O ++ L.drop i = insF L ⟨a, k, tag⟩ ∧ O.length = i + 1)) L.length ?_ ?_
    · refine ⟨0, false, .nils, [], [], by omega, ?_, ?_, ?_, ?_, ?_, ?_, ?_, HFrame.refl (by simp), SlOf.nil, fun _ => ⟨rfl, fun t ht => by simp at ht⟩, fun h => by cases h⟩ <;> first | (simp -implicitDefEqProofs (disch := first | decide | assumption | omega | (simp -implicitDefEqProofs only [AM.RN]; first | done | omega) | fail) only [↓AM.R0, AM.R1, AM.R2, Nat.reduceAdd, Nat.reduceLeDiff, Nat.reduceEqDiff, Int.reduceToNat, Nat.reduceLT, ↓reduceIte, Int.reduceEq, Int.reduceLT, Int.reduceLE]; done) | (simp -implicitDefEqProofs (disch := first | decide | assumption | omega | (simp -implicitDefEqProofs only [AM.RN]; first | done | omega) | fail) only [↓AM.R0, AM.R1, AM.R2, Nat.reduceAdd, Nat.reduceLeDiff, Nat.reduceEqDiff, Int.reduceToNat, Nat.reduceLT, ↓reduceIte, Int.reduceEq, Int.reduceLT, Int.reduceLE]; rfl)
    · rintro m e h' ⟨i, d, sv, H, O, hm, y0, y6, y8, y10, y11, y12, y13, F, so, hO1, hO2⟩
      have hn := F.n
      have z1 := (F.get u lu3 (by simp)).trans gu3
      have zb := (F.get h2.n (by omega) (by simp)).trans gB
      have zc := (F.get h.n (by omega) (by simp)).trans gc3
      have soL := so3.frame F.n fun j hj => F.get j (so3.lt j hj) (by simp)
      have lu' : u < h'.n := by omega
      have lb' : h2.n < h'.n := by omega
      simp -implicitDefEqProofs (disch := first | decide | assumption | omega | (simp -implicitDefEqProofs only [AM.RN]; first | done | omega) | fail) only [↓AM.R0, AM.R1, AM.R2, Nat.reduceAdd, Nat.reduceLeDiff, Nat.reduceEqDiff, Int.reduceToNat, Nat.reduceLT, ↓reduceIte, Int.reduceEq, Int.reduceLT, Int.reduceLE, y0, y13, z1, soL.len]
      refine AM.cI_bool (fun hc => ?_) (fun hc => ?_)
      · simp only [decide_eq_true_eq] at hc
        obtain ⟨s, hs⟩ : ∃ s, L[i]? = some s := ⟨_, List.getElem?_eq_getElem (by omega)⟩
        obtain ⟨id, g', off, vs, ro, x1, x2, x3, x4, x5⟩ := soL.rd.ix (fun _ => rfl) hs .i64
        have hx4 : off + 3 ≤ vs.length := x4
        have x0 : vs[off]? = some (.int .i64 (s.a : Int)) := by
          have : ((vs.drop off).take 3)[0]? = some (.int .i64 (s.a : Int)) := by rw [x5]; rfl
          rwa [List.getElem?_take, if_pos (by decide), List.getElem?_drop, Nat.add_zero] at this
        have w1 : IntKind.i64.wrap ((i : Int) + 1) = ((i + 1 : Nat) : Int) := (wrap64 (by omega) (by omega)).trans (by omega)
        simp -implicitDefEqProofs (disch := first | decide | assumption | omega | (simp -implicitDefEqProofs only [AM.RN]; first | done | omega) | fail) only [AM.RGB, ↓AM.R0, AM.R1, AM.R2, Nat.reduceAdd, Nat.reduceLeDiff, Nat.reduceEqDiff, Int.reduceToNat, Nat.reduceLT, ↓reduceIte, Int.reduceEq, Int.reduceLT, Int.reduceLE, y0, y8, y12, y13, z1, x1, x2, x0]
        refine AM.cI_cut (fun e' h5 => ∃ (d : Bool) (sv : AVal) (H : List Nat) (O : List Sp), e'.val 0 = .ptr u 0 0 ∧ e'.val 6 = .ptr h.n 0 0 ∧ e'.val 8 = .int .i64 (a : Int) ∧ e'.val 10 = .ptr h2.n 0 0 ∧ e'.val 11 = sv ∧ e'.val 12 = .bool d ∧ e'.val 13 = .int .i64 (i : Int) ∧ HFrame h3 h5 [] H ∧
          SlOf h5 3 encT sv O H ∧ (d = false → O = L.take i ∧ (∀ t, t ∈ L.take i → t.a ≤ a) ∧ s.a ≤ a) ∧ (d = true → O ++ L.drop i = insF L ⟨a, k, tag⟩ ∧ O.length = i + 1)) ?_ ?_
        · clear y0 y6 y8 y10 y11 y12 y13 so hO1 hO2 F z1 zb zc soL lu' lb' x1 x2 x0 x3 x4 x5 hx4 hn
          rintro e h5 ⟨d, sv, H, O, y0, y6, y8, y10, y11, y12, y13, F, so, hO1, hO2⟩
          have hn := F.n
          have z1 := (F.get u lu3 (by simp)).trans gu3
          have soL := so3.frame F.n fun j hj => F.get j (so3.lt j hj) (by simp)
          have lu' : u < h5.n := by omega
          obtain ⟨id, g', off, vs, ro, x1, x2, x3, x4, x5⟩ := soL.rd.ix (fun _ => rfl) hs .i64
          have hx4 : off + 3 ≤ vs.length := x4
          have hOl : O.length ≤ 4097 := by
            cases d with
            | false => rw [(hO1 rfl).1, List.length_take]; omega
            | true => rw [(hO2 rfl).2]; omega
          simp -implicitDefEqProofs (disch := first | decide | assumption | omega | (simp -implicitDefEqProofs only [AM.RN]; first | done | omega) | fail) only [↓AM.R0, AM.R1, AM.R2, Nat.reduceAdd, Nat.reduceLeDiff, Nat.reduceEqDiff, Int.reduceToNat, Nat.reduceLT, ↓reduceIte, Int.reduceEq, Int.reduceLT, Int.reduceLE, y0, y11, y13, z1, x1, x2, x4, x5, encT]
          refine AM.opI_of (SlOf.app1 so (fun _ => rfl) (fun _ => rfl) (by omega) s fun sw h7 H7 so7 f7 => ?_)
          simp -implicitDefEqProofs (disch := first | decide | assumption | omega | (simp -implicitDefEqProofs only [AM.RN]; first | done | omega) | fail) only [↓AM.R0, AM.R1, AM.R2, Nat.reduceAdd, Nat.reduceLeDiff, Nat.reduceEqDiff, Int.reduceToNat, Nat.reduceLT, ↓reduceIte, Int.reduceEq, Int.reduceLT, Int.reduceLE, y13, w1]
          refine ⟨m - 1, by omega, i + 1, d, sw, H7, O ++ [s], by omega, y0, y6, y8, y10, rfl, y12, rfl, F.trans f7, so7, fun hd => ?_, fun hd => ?_⟩
          · obtain ⟨q1, q2, q3⟩ := hO1 hd
            rw [take_snoc hs, q1]
            refine ⟨rfl, fun t ht => ?_⟩
            rcases List.mem_append.1 ht with q | q
            · exact q2 t q
            · simp at q; rw [q]; exact q3
          · obtain ⟨q1, q2⟩ := hO2 hd
            rw [drop_cons hs] at q1
            exact ⟨by rw [List.append_assoc]; exact q1, by rw [List.length_append, q2]; rfl⟩
        · refine AM.cI_bool (fun hd => ?_) (fun hd => ?_)
          · simp only [Bool.and_eq_true, Bool.not_eq_true', decide_eq_true_eq] at hd
            obtain ⟨rfl, hd2⟩ := hd
            obtain ⟨q1, q2⟩ := hO1 rfl
            have hOl : O.length ≤ 4097 := by rw [q1, List.length_take]; omega
            simp -implicitDefEqProofs (disch := first | decide | assumption | omega | (simp -implicitDefEqProofs only [AM.RN]; first | done | omega) | fail) only [↓AM.R0, AM.R1, AM.R2, Nat.reduceAdd, Nat.reduceLeDiff, Nat.reduceEqDiff, Int.reduceToNat, Nat.reduceLT, ↓reduceIte, Int.reduceEq, Int.reduceLT, Int.reduceLE, y10, y11, zb]
            refine AM.opI_of (SlOf.app1 so (fun _ => rfl) (fun _ => rfl) (by omega) ⟨a, k, tag⟩ fun sw h7 H7 so7 f7 => ?_)
            simp -implicitDefEqProofs (disch := first | decide | assumption | omega | (simp -implicitDefEqProofs only [AM.RN]; first | done | omega) | fail) only [↓AM.R0, AM.R1, AM.R2, Nat.reduceAdd, Nat.reduceLeDiff, Nat.reduceEqDiff, Int.reduceToNat, Nat.reduceLT, ↓reduceIte, Int.reduceEq, Int.reduceLT, Int.reduceLE, y0, y6, y8, y10, y13]
            refine ⟨true, sw, H7, O ++ [⟨a, k, tag⟩], rfl, rfl, F.trans f7, so7, fun h => (by cases h), fun _ => ⟨?_, by rw [List.length_append, q1, List.length_take]; simp; omega⟩⟩
            rw [q1, drop_cons hs, List.append_assoc]
            have := insF_split (l1 := L.take i) (s := ⟨a, k, tag⟩) (t := s) (l2 := L.drop (i + 1)) q2 (by show a < s.a; omega)
            rw [← drop_cons hs, List.take_append_drop] at this
            rw [this, drop_cons hs]; rfl
          · simp -implicitDefEqProofs (disch := first | decide | assumption | omega | (simp -implicitDefEqProofs only [AM.RN]; first | done | omega) | fail) only [↓AM.R0, AM.R1, AM.R2, Nat.reduceAdd, Nat.reduceLeDiff, Nat.reduceEqDiff, Int.reduceToNat, Nat.reduceLT, ↓reduceIte, Int.reduceEq, Int.reduceLT, Int.reduceLE, y0, y6, y8, y10, y11, y12, y13]
            refine ⟨d, sv, H, O, rfl, rfl, F, so, fun h => ?_, hO2⟩
            obtain ⟨q1, q2⟩ := hO1 h
            refine ⟨q1, q2, ?_⟩
            rw [h] at hd
            simp at hd
            omega
      · simp only [decide_eq_false_iff_not] at hc
        have hiL : i = L.length := by omega
        simp -implicitDefEqProofs (disch := first | decide | assumption | omega | (simp -implicitDefEqProofs only [AM.RN]; first | done | omega) | fail) only [↓AM.R0, AM.R1, AM.R2, Nat.reduceAdd, Nat.reduceLeDiff, Nat.reduceEqDiff, Int.reduceToNat, Nat.reduceLT, ↓reduceIte, Int.reduceEq, Int.reduceLT, Int.reduceLE, y12]
        refine AM.cI_cut (fun e' h5 => ∃ (sv : AVal) (H : List Nat), e'.val 0 = .ptr u 0 0 ∧ e'.val 6 = .ptr h.n 0 0 ∧ e'.val 10 = .ptr h2.n 0 0 ∧ e'.val 11 = sv ∧ HFrame h3 h5 [] H ∧ SlOf h5 3 encT sv (insF L ⟨a, k, tag⟩) H) ?_ ?_
        · clear y0 y6 y8 y10 y11 y12 y13 so hO1 hO2 F z1 zb zc soL lu' lb' hn
          rintro e h5 ⟨sv, H, y0, y6, y10, y11, F, so⟩
          have hn := F.n
          have z1 := (F.get u lu3 (by simp)).trans gu3
          have zb := (F.get h2.n (by omega) (by simp)).trans gB
          have zc := (F.get h.n (by omega) (by simp)).trans gc3
          have hH : ∀ j, j ∈ H → h3.n ≤ j := fun j hj => by
            rcases F.new j hj with q | q
            · simp at q
            · exact q
          have lu' : u < h5.n := by omega
          have lc' : h.n < h5.n := by omega
          have lb' : h2.n < h5.n := by omega
          have q8 := so.rd.cells
          have fu := HFrame.set h5 u (.cells 0 false [.ptr r 0 0, sv]) (F := [u]) (by simp) (by simpa using lu')
          have R5 := R3.keepD F (by simp) (by simp)
          have RR := R5.keepD fu (by simp; exact Ne.symm R.ne.1) (by simp; exact Ne.symm R.ne.2)
          have gu := AHeap.get_set_same h5 u (.cells 0 false [.ptr r 0 0, sv])
          have su := so.set (i := u) (fun hm => by have := hH _ hm; omega) (.cells 0 false [.ptr r 0 0, sv])
          have ub := (AHeap.get_set_ne h5 (.cells 0 false [.ptr r 0 0, sv]) (show h2.n ≠ u by omega)).trans zb
          have uc := (AHeap.get_set_ne h5 (.cells 0 false [.ptr r 0 0, sv]) (show h.n ≠ u by omega)).trans zc
          have nu : (h5.set u (.cells 0 false [.ptr r 0 0, sv])).n = h5.n := by simp
          simp -implicitDefEqProofs (disch := first | decide | assumption | omega | (simp -implicitDefEqProofs only [AM.RN]; first | done | omega) | fail) only [↓AM.R0, AM.R1, AM.R2, Nat.reduceAdd, Nat.reduceLeDiff, Nat.reduceEqDiff, Int.reduceToNat, Nat.reduceLT, ↓reduceIte, Int.reduceEq, Int.reduceLT, Int.reduceLE, y0, y6, y10, y11, z1, zb, zc, q8.1, q8.2, res_ct, retT_some]
          generalize h5.set u (.cells 0 false [.ptr r 0 0, sv]) = h6 at *
          subst hQ
          have hHu : ∀ j, j ∈ [u, r, b] → j ∉ H := fun j hj hm => by
            have := hH j hm
            simp at hj
            rcases hj with rfl | rfl | rfl <;> omega
          have W5 := W3.trans (F.wide (G := [u, r, b] ++ G) (G' := [u, r, b] ++ H) (by simp) (fun j hj => by rcases List.mem_append.1 hj with q | q; exact .inr (List.mem_append_left _ q); exact .inl q) W3.lt)
          have W6 := W5.trans (fu.wide (G := [u, r, b] ++ H) (G' := [u, r, b] ++ H) (by simp) (fun j hj => .inr hj) W5.lt)
          have ft := HFrame.set h6 h.n (.cells 0 false (encT ⟨a, k, tag⟩)) (F := [h.n]) (by simp) (by simp; omega)
          have RT : RTab h6 u r b n g (insF L ⟨a, k, tag⟩) sv H := ⟨RR, J, gu, su, by omega, R.ne, ⟨hHu u (by simp), hHu r (by simp), hHu b (by simp)⟩⟩
          refine ⟨g, insF L ⟨a, k, tag⟩, sv, H, W6.setTmp (Nat.le_refl _) _, RT.keepD ft (fun j hj hm => ?_), _, A2, .inr ⟨a, rfl, by omega, by rw [Int.toNat_natCast], by rw [Int.toNat_natCast]; rfl⟩⟩
          simp at hm
          rcases List.mem_append.1 hj with q | q
          · simp at q; omega
          · have := hH j q; omega
        · refine AM.cI_bool (fun hd => ?_) (fun hd => ?_)
          · have hd' : d = false := by simpa using hd
            obtain ⟨q1, q2⟩ := hO1 hd'
            rw [hiL, List.take_of_length_le (Nat.le_refl _)] at q1 q2
            have hOl : O.length ≤ 4097 := by rw [q1]; omega
            simp -implicitDefEqProofs (disch := first | decide | assumption | omega | (simp -implicitDefEqProofs only [AM.RN]; first | done | omega) | fail) only [↓AM.R0, AM.R1, AM.R2, Nat.reduceAdd, Nat.reduceLeDiff, Nat.reduceEqDiff, Int.reduceToNat, Nat.reduceLT, ↓reduceIte, Int.reduceEq, Int.reduceLT, Int.reduceLE, y10, y11, zb]
            refine AM.opI_of (SlOf.app1 so (fun _ => rfl) (fun _ => rfl) (by omega) ⟨a, k, tag⟩ fun sw h7 H7 so7 f7 => ?_)
            simp -implicitDefEqProofs (disch := first | decide | assumption | omega | (simp -implicitDefEqProofs only [AM.RN]; first | done | omega) | fail) only [↓AM.R0, AM.R1, AM.R2, Nat.reduceAdd, Nat.reduceLeDiff, Nat.reduceEqDiff, Int.reduceToNat, Nat.reduceLT, ↓reduceIte, Int.reduceEq, Int.reduceLT, Int.reduceLE, y0, y6, y10]
            rw [q1, ← insF_all (L := L) (s := ⟨a, k, tag⟩) q2] at so7
            exact ⟨sw, H7, rfl, F.trans f7, so7⟩
          · have hd' : d = true := by simpa using hd
            obtain ⟨q1, q2⟩ := hO2 hd'
            rw [hiL, List.drop_of_length_le (Nat.le_refl _), List.append_nil] at q1
            simp -implicitDefEqProofs (disch := first | decide | assumption | omega | (simp -implicitDefEqProofs only [AM.RN]; first | done | omega) | fail) only [↓AM.R0, AM.R1, AM.R2, Nat.reduceAdd, Nat.reduceLeDiff, Nat.reduceEqDiff, Int.reduceToNat, Nat.reduceLT, ↓reduceIte, Int.reduceEq, Int.reduceLT, Int.reduceLE, y0, y6, y10, y11]
            rw [q1] at so
            exact ⟨sv, H, rfl, F, so⟩
end Go.Proofs.YthillgheddpmhaaDoor.Pg

namespace Go.Proofs.YthillgheddpmhaaDoor.Pg
open Go Go.AM Go.Proofs.YthillgheddpmhaaDoor.AmGN
attribute [local irreducible] AM.wp AM.wpIs AM.wpTr AM.opI AM.gI AM.cI AM.trI AM.callI AM.fnI AM.yldI AM.rangeI AM.rangeC AM.YldP AM.asgQ AM.roundQ AM.rangeQ AM.trG AM.trOp AM.trCall AM.seqC AM.loopI
set_option maxRecDepth 100000
set_option linter.unusedVariables false
set_option linter.unusedSimpArgs false

set_option maxHeartbeats 4000000 in
theorem rsSame {h : AHeap} {v w : AVal} {l : List Sp} (sv : SlRd h 3 encT v l) (sw : SlRd h 3 encT w l) (hl : l.length ≤ 1000000) : CallP AP 36 [v, w] h fun r h' => h' = h ∧ r = .bool true := by
  refine callP (rfl : Tr.get AP 36 = some A36) ?_
  generalize hQ : (fun (r : AVal) (h' : AHeap) => _) = Q
  simp -implicitDefEqProofs (disch := first | decide | assumption | omega | (simp -implicitDefEqProofs only [AM.RN]; first | done | omega) | fail) only [↓AM.R0, AM.R1, AM.R2, Nat.reduceAdd, Nat.reduceLeDiff, Nat.reduceEqDiff, Int.reduceToNat, Nat.reduceLT, ↓reduceIte, Int.reduceEq, Int.reduceLT, Int.reduceLE, sv.len, sw.len]
  refine AM.loopI_of (fun k e h' => ∃ i : Nat, k + i = l.length ∧ h' = h ∧ e.val 0 = v ∧ e.val 1 = w ∧ e.val 5 = .int .i64 (i : Int)) l.length ?_ ?_
  · refine ⟨0, by omega, rfl, ?_, ?_, ?_⟩ <;> simp -implicitDefEqProofs (disch := first | decide | assumption | omega | (simp -implicitDefEqProofs only [AM.RN]; first | done | omega) | fail) only [↓AM.R0, AM.R1, AM.R2, Nat.reduceAdd, Nat.reduceLeDiff, Nat.reduceEqDiff, Int.reduceToNat, Nat.reduceLT, ↓reduceIte, Int.reduceEq, Int.reduceLT, Int.reduceLE] <;> rfl
  · rintro k e h' ⟨i, hk, hh, e0, e1, e5⟩
    rw [hh]
    simp -implicitDefEqProofs (disch := first | decide | assumption | omega | (simp -implicitDefEqProofs only [AM.RN]; first | done | omega) | fail) only [↓AM.R0, AM.R1, AM.R2, Nat.reduceAdd, Nat.reduceLeDiff, Nat.reduceEqDiff, Int.reduceToNat, Nat.reduceLT, ↓reduceIte, Int.reduceEq, Int.reduceLT, Int.reduceLE, e0, e5, sv.len]
    refine AM.cI_bool (fun hc => ?_) (fun hc => ?_)
    · simp only [decide_eq_true_eq] at hc
      obtain ⟨x, hx⟩ : ∃ x, l[i]? = some x := ⟨_, List.getElem?_eq_getElem (by omega)⟩
      obtain ⟨id, g, off, vs, ro, y1, y2, y3, y4, y5⟩ := sv.ix (fun _ => rfl) hx .i64
      obtain ⟨id', g', off', vs', ro', z1, z2, z3, z4, z5⟩ := sw.ix (fun _ => rfl) hx .i64
      have w1 : IntKind.i64.wrap ((i : Int) + 1) = ((i + 1 : Nat) : Int) := (wrap64 (by omega) (by omega)).trans (by omega)
      simp -implicitDefEqProofs (disch := first | decide | assumption | omega | (simp -implicitDefEqProofs only [AM.RN]; first | done | omega) | fail) only [↓AM.R0, AM.R1, AM.R2, Nat.reduceAdd, Nat.reduceLeDiff, Nat.reduceEqDiff, Int.reduceToNat, Nat.reduceLT, ↓reduceIte, Int.reduceEq, Int.reduceLT, Int.reduceLE, e0, e1, e5, y1, y2, y4, y5, z1, z2, z4, z5, encT, w1]
      exact ⟨k - 1, by omega, i + 1, by omega, rfl⟩
    · simp -implicitDefEqProofs (disch := first | decide | assumption | omega | (simp -implicitDefEqProofs only [AM.RN]; first | done | omega) | fail) only [↓AM.R0, AM.R1, AM.R2, Nat.reduceAdd, Nat.reduceLeDiff, Nat.reduceEqDiff, Int.reduceToNat, Nat.reduceLT, ↓reduceIte, Int.reduceEq, Int.reduceLT, Int.reduceLE]
      subst hQ
      exact ⟨rfl, rfl⟩
theorem AllocS.shape {f g : Nat → Bool} {L L' : List Sp} {k tag : Int} {r : AVal} (h : AllocS f g L L' k tag r) : ∃ (s : Sp) (e : Int), r = .tup [.agg (encT s), .int .i64 e] := by
  obtain ⟨v, _, ⟨e, _, _, _, b⟩ | ⟨a, _, _, _, b⟩⟩ := h
  · exact ⟨_, _, b⟩
  · exact ⟨_, _, b⟩
theorem FreeS.shape {f g : Nat → Bool} {L L' : List Sp} {b : Int} {r : AVal} (h : FreeS f g L L' b r) : ∃ e : Int, r = .int .i64 e := by
  rcases h with ⟨_, _, _, _, _, e⟩ | ⟨_, _, _, e⟩
  · exact ⟨_, e⟩
  · exact ⟨_, e⟩
theorem encF_shape (o : Option Sp) : ∃ (s : Sp) (c : Bool), encF o = .tup [.agg (encT s), .bool c] := by
  cases o with
  | none => exact ⟨_, _, rfl⟩
  | some s => exact ⟨_, _, rfl⟩
def encO3 (o : Int × Int × Int) : List AVal := [.int .i64 o.1, .int .i64 o.2.1, .int .i64 o.2.2]
set_option maxHeartbeats 16000000 in
theorem lawSpanPlays {h : AHeap} (T : TabR h) {v1 : AVal} {os : List (Int × Int × Int)} (s1 : SlIn h 3 encO3 v1 os) (hl1 : os.length ≤ 9223372036854775807) (hos : ∀ o, o ∈ os → -9223372036854775808 ≤ o.2.1 ∧ o.2.1 ≤ 9223372036854775807) (n : Int) :
    CallP AP 8 [.int .i64 n, v1] h fun r h' => HFrame h h' [] [] ∧ r = .bool true := by
  refine callP (rfl : Tr.get AP 8 = some A8) ?_
  generalize hQ : (fun (r : AVal) (h' : AHeap) => _) = Q
  simp -implicitDefEqProofs (disch := first | decide | assumption | omega | (simp -implicitDefEqProofs only [AM.RN]; first | done | omega) | fail) only [↓AM.R0, AM.R1, AM.R2, Nat.reduceAdd, Nat.reduceLeDiff, Nat.reduceEqDiff, Int.reduceToNat, Nat.reduceLT, ↓reduceIte, Int.reduceEq, Int.reduceLT, Int.reduceLE]
  refine AM.callI_of (newS T n) ?_
  rintro v h1 (⟨c, f1, rfl⟩ | ⟨n1, n2, t, so, oo, p, ws, lv, f1, P, hf, rfl⟩)
  · simp -implicitDefEqProofs (disch := first | decide | assumption | omega | (simp -implicitDefEqProofs only [AM.RN]; first | done | omega) | fail) only [↓AM.R0, AM.R1, AM.R2, Nat.reduceAdd, Nat.reduceLeDiff, Nat.reduceEqDiff, Int.reduceToNat, Nat.reduceLT, ↓reduceIte, Int.reduceEq, Int.reduceLT, Int.reduceLE]
    refine AM.callI_of (rsNew n) ?_
    rintro v h2 (⟨_, f2, rfl⟩ | ⟨c1, c2, _⟩)
    rotate_left
    · exact absurd ⟨c1, c2⟩ c
    simp -implicitDefEqProofs (disch := first | decide | assumption | omega | (simp -implicitDefEqProofs only [AM.RN]; first | done | omega) | fail) only [↓AM.R0, AM.R1, AM.R2, Nat.reduceAdd, Nat.reduceLeDiff, Nat.reduceEqDiff, Int.reduceToNat, Nat.reduceLT, ↓reduceIte, Int.reduceEq, Int.reduceLT, Int.reduceLE]
    refine AM.callI_of (awakeS ((T.frame f1 (by simp)).frame f2 (by simp))) ?_
    rintro v h3 ⟨f3, rfl⟩
    have bt : (true == true) = true := rfl
    simp -implicitDefEqProofs (disch := first | decide | assumption | omega | (simp -implicitDefEqProofs only [AM.RN]; first | done | omega) | fail) only [↓AM.R0, AM.R1, AM.R2, Nat.reduceAdd, Nat.reduceLeDiff, Nat.reduceEqDiff, Int.reduceToNat, Nat.reduceLT, ↓reduceIte, Int.reduceEq, Int.reduceLT, Int.reduceLE, bt]
    subst hQ
    exact ⟨(f1.trans f2).trans f3, rfl⟩
  obtain ⟨n, rfl⟩ : ∃ a : Nat, n = a := ⟨n.toNat, by omega⟩
  rw [Int.toNat_natCast] at P hf
  have T1 := T.frame f1 (by simp)
  have h0 : 0 ∉ p.F ++ [t, so, oo] := fun hm => by
    rcases f1.new 0 hm with e | e
    · simp at e
    · have := T.2; omega
  simp -implicitDefEqProofs (disch := first | decide | assumption | omega | (simp -implicitDefEqProofs only [AM.RN]; first | done | omega) | fail) only [↓AM.R0, AM.R1, AM.R2, Nat.reduceAdd, Nat.reduceLeDiff, Nat.reduceEqDiff, Int.reduceToNat, Nat.reduceLT, ↓reduceIte, Int.reduceEq, Int.reduceLT, Int.reduceLE]
  refine AM.callI_of (rsNew (n : Int)) ?_
  rintro v h2 (⟨c, _⟩ | ⟨c1, c2, u, r, b, f2, R, rfl⟩)
  · exact absurd ⟨n1, n2⟩ c
  rw [Int.toNat_natCast] at R
  have T2 := T1.frame f2 (by simp)
  simp -implicitDefEqProofs (disch := first | decide | assumption | omega | (simp -implicitDefEqProofs only [AM.RN]; first | done | omega) | fail) only [↓AM.R0, AM.R1, AM.R2, Nat.reduceAdd, Nat.reduceLeDiff, Nat.reduceEqDiff, Int.reduceToNat, Nat.reduceLT, ↓reduceIte, Int.reduceEq, Int.reduceLT, Int.reduceLE]
  refine AM.callI_of (awakeS T2) ?_
  rintro v h3 ⟨f3, rfl⟩
  have hR : (fun q => decide (q < n)) = fw ws := funext fun q => (hf q).symm
  rw [hR] at R
  have P3 := (P.keep f2).keep f3
  have R3 := R.keep f3
  generalize hTF : p.F ++ [t, so, oo] = TF at *
  have d1 : ∀ j, j ∈ TF → j ∉ [u, r, b] := f2.dis (B := TF) (by simp) (by rw [← hTF]; exact P.flt)
  have F3 : HFrame h h3 [] (TF ++ ([u, r, b] ++ [])) := by
    have q1 : HFrame h h1 [] (TF ++ []) := by rw [List.append_nil]; exact f1
    have q2 := q1.right f2
    rw [List.append_nil]
    exact q2.trans (f3.wide (by simp) (fun j hj => .inr hj) q2.lt)
  clear f1 f2 f3 P R T1 T2 hR hf
  have bf : (false == false) = true := rfl
  simp -implicitDefEqProofs (disch := first | decide | assumption | omega | (simp -implicitDefEqProofs only [AM.RN]; first | done | omega) | fail) only [↓AM.R0, AM.R1, AM.R2, Nat.reduceAdd, Nat.reduceLeDiff, Nat.reduceEqDiff, Int.reduceToNat, Nat.reduceLT, ↓reduceIte, Int.reduceEq, Int.reduceLT, Int.reduceLE, bf, s1.len]
  refine AM.loopI_of (fun k e h' => ∃ (i : Nat) (ws : List Nat) (lv : List (List Sm)) (L : List Sp) (v : AVal) (G : List Nat), k + i = os.length ∧ e.val 5 = .ptr t 0 0 ∧ e.val 7 = .ptr u 0 0 ∧ e.val 52 = v1 ∧ e.val 53 = .int .i64 (os.length : Int) ∧ e.val 54 = .int .i64 (i : Int) ∧
    HFrame h h' [] (TF ++ ([u, r, b] ++ G)) ∧ TabP h' t so oo p n ws lv L ∧ RTab h' u r b n (fw ws) L v G ∧ (∀ j, j ∈ TF → j ∉ [u, r, b] ++ G)) os.length ?_ ?_
  · refine ⟨0, ws, lv, [], .nils, [], by omega, ?_, ?_, ?_, ?_, ?_, F3, P3, R3, by simpa using d1⟩ <;> first | (simp -implicitDefEqProofs (disch := first | decide | assumption | omega | (simp -implicitDefEqProofs only [AM.RN]; first | done | omega) | fail) only [↓AM.R0, AM.R1, AM.R2, Nat.reduceAdd, Nat.reduceLeDiff, Nat.reduceEqDiff, Int.reduceToNat, Nat.reduceLT, ↓reduceIte, Int.reduceEq, Int.reduceLT, Int.reduceLE]; done) | (simp -implicitDefEqProofs (disch := first | decide | assumption | omega | (simp -implicitDefEqProofs only [AM.RN]; first | done | omega) | fail) only [↓AM.R0, AM.R1, AM.R2, Nat.reduceAdd, Nat.reduceLeDiff, Nat.reduceEqDiff, Int.reduceToNat, Nat.reduceLT, ↓reduceIte, Int.reduceEq, Int.reduceLT, Int.reduceLE]; rfl)
  clear F3 P3 R3 ws lv d1
  rintro k e h4 ⟨i, ws, lv, L, v, G, hk, e5, e7, e52, e53, e54, F4, P4, R4, d4⟩
  have T4 := T.frame F4 (by simp)
  simp -implicitDefEqProofs (disch := first | decide | assumption | omega | (simp -implicitDefEqProofs only [AM.RN]; first | done | omega) | fail) only [↓AM.R0, AM.R1, AM.R2, Nat.reduceAdd, Nat.reduceLeDiff, Nat.reduceEqDiff, Int.reduceToNat, Nat.reduceLT, ↓reduceIte, Int.reduceEq, Int.reduceLT, Int.reduceLE, e53, e54]
  refine AM.cI_bool (fun hc => ?_) (fun hc => ?_)
  · simp only [decide_eq_true_eq] at hc
    obtain ⟨x, hx⟩ : ∃ x, os[i]? = some x := ⟨_, List.getElem?_eq_getElem (by omega)⟩
    have hb1 := hos x (List.mem_of_getElem? hx)
    obtain ⟨id, g, off, vs, ro, x1, x2, x3, x4, x5⟩ := ((s1.keep F4).rd hx).ix (fun _ => rfl) hx .i64
    obtain ⟨kd, A, B⟩ := x
    simp only at hb1
    have f5 := ((HFrame.refl (h := h4) (F := []) (by simp)).pushTmp (.cells 0 false [.int .i64 0, .int .i64 0, .int .i64 0])).setTmp (i := h4.n) (Nat.le_refl _) (.cells 0 false (encO3 (kd, A, B)))
    have g5 : ((h4.push (.cells 0 false [.int .i64 0, .int .i64 0, .int .i64 0])).set h4.n (.cells 0 false (encO3 (kd, A, B)))).get h4.n = .cells 0 false (encO3 (kd, A, B)) := AHeap.get_set_same _ _ _
    have n5 : ((h4.push (.cells 0 false [.int .i64 0, .int .i64 0, .int .i64 0])).set h4.n (.cells 0 false (encO3 (kd, A, B)))).n = h4.n + 1 := by simp
    simp only [encO3] at f5 g5 n5
    have hx4 : off + 3 ≤ vs.length := x4
    simp -implicitDefEqProofs (disch := first | decide | assumption | omega | (simp -implicitDefEqProofs only [AM.RN]; first | done | omega) | fail) only [↓AM.R0, AM.R1, AM.R2, Nat.reduceAdd, Nat.reduceLeDiff, Nat.reduceEqDiff, Int.reduceToNat, Nat.reduceLT, ↓reduceIte, Int.reduceEq, Int.reduceLT, Int.reduceLE, e52, e54, x1, x2, x4, x5, encO3]
    have l4 : h4.n < ((h4.push (.cells 0 false [.int .i64 0, .int .i64 0, .int .i64 0])).set h4.n (.cells 0 false [.int .i64 kd, .int .i64 A, .int .i64 B])).n := by omega
    generalize ((h4.push (.cells 0 false [.int .i64 0, .int .i64 0, .int .i64 0])).set h4.n (.cells 0 false [.int .i64 kd, .int .i64 A, .int .i64 B])) = h5 at *
    have F5 := F4.trans (f5.wide (by simp) (fun j hj => .inr hj) F4.lt)
    have P5 := P4.keep f5
    have R5 := R4.keep f5
    have T5 := T4.frame f5 (by simp)
    have oT : h4.n ∉ TF := fun hm => by have := F4.lt _ (List.mem_append_left _ hm); omega
    have oU : h4.n ∉ [u, r, b] ++ G := fun hm => by have := F4.lt _ (List.mem_append_right _ hm); omega
    refine AM.cI_cut (fun e' h' => ∃ (ws : List Nat) (lv : List (List Sm)) (L : List Sp) (v : AVal) (G : List Nat), e'.val 5 = .ptr t 0 0 ∧ e'.val 7 = .ptr u 0 0 ∧ e'.val 10 = .ptr h4.n 0 0 ∧ e'.val 11 = .bool true ∧ e'.val 52 = v1 ∧ e'.val 53 = .int .i64 (os.length : Int) ∧ e'.val 54 = .int .i64 (i : Int) ∧
      HFrame h h' [] (TF ++ ([u, r, b] ++ G)) ∧ TabP h' t so oo p n ws lv L ∧ RTab h' u r b n (fw ws) L v G ∧ (∀ j, j ∈ TF → j ∉ [u, r, b] ++ G) ∧ h'.get h4.n = .cells 0 false [.int .i64 kd, .int .i64 A, .int .i64 B] ∧ h4.n < h'.n) ?_ ?_
    · clear e5 e7 e52 e53 e54 P5 R5 F5 d4 T4 F4 P4 R4
      rintro e h6 ⟨ws, lv, L, v, G, e5, e7, e10, e11, e52, e53, e54, F6, P6, R6, d6, g6, l6⟩
      simp -implicitDefEqProofs (disch := first | decide | assumption | omega | (simp -implicitDefEqProofs only [AM.RN]; first | done | omega) | fail) only [↓AM.R0, AM.R1, AM.R2, Nat.reduceAdd, Nat.reduceLeDiff, Nat.reduceEqDiff, Int.reduceToNat, Nat.reduceLT, ↓reduceIte, Int.reduceEq, Int.reduceLT, Int.reduceLE, e5, e10, g6]
      refine AM.callI_of (findW P6 A) ?_
      rintro w h7 ⟨f7, rfl⟩
      obtain ⟨s, c, hsc⟩ := encF_shape (findF L A)
      rw [hsc]
      have P7 := P6.keep f7
      have R7 := R6.keep f7
      have g7 := (f7.get _ l6 (by simp)).trans g6
      have n7 := f7.n
      have F7 := F6.trans (f7.wide (by simp) (fun j hj => .inr hj) F6.lt)
      have fq := ((HFrame.refl (h := h7) (F := []) (by simp)).pushTmp (.cells 0 false [.int .i64 0, .int .i64 0, .int .i64 0])).setTmp (i := h7.n) (Nat.le_refl _) (.cells 0 false (encT s))
      have gq : ((h7.push (.cells 0 false [.int .i64 0, .int .i64 0, .int .i64 0])).set h7.n (.cells 0 false (encT s))).get h7.n = .cells 0 false (encT s) := AHeap.get_set_same _ _ _
      have nq : ((h7.push (.cells 0 false [.int .i64 0, .int .i64 0, .int .i64 0])).set h7.n (.cells 0 false (encT s))).n = h7.n + 1 := by simp
      simp only [encT] at fq gq nq
      have l8 : h4.n < ((h7.push (.cells 0 false [.int .i64 0, .int .i64 0, .int .i64 0])).set h7.n (.cells 0 false [.int .i64 (s.a : Int), .int .i64 (s.k : Int), .int .i64 s.t])).n := by omega
      simp -implicitDefEqProofs (disch := first | decide | assumption | omega | (simp -implicitDefEqProofs only [AM.RN]; first | done | omega) | fail) only [↓AM.R0, AM.R1, AM.R2, Nat.reduceAdd, Nat.reduceLeDiff, Nat.reduceEqDiff, Int.reduceToNat, Nat.reduceLT, ↓reduceIte, Int.reduceEq, Int.reduceLT, Int.reduceLE, encT, e7, e10, g7]
      generalize ((h7.push (.cells 0 false [.int .i64 0, .int .i64 0, .int .i64 0])).set h7.n (.cells 0 false [.int .i64 (s.a : Int), .int .i64 (s.k : Int), .int .i64 s.t])) = h8 at *
      have P8 := P7.keep fq
      have R8 := R7.keep fq
      have g8 := (fq.get _ (by omega) (by simp)).trans g7
      have F8 := F7.trans (fq.wide (by simp) (fun j hj => .inr hj) F7.lt)
      refine AM.callI_of (rsFind R8 A hb1) ?_
      rintro w h9 ⟨f9, rfl⟩
      rw [hsc]
      have P9 := P8.keep f9
      have R9 := R8.keep f9
      have q9 := (f9.get h7.n (by omega) (by simp)).trans gq
      have n9 := f9.n
      have F9 := F8.trans (f9.wide (by simp) (fun j hj => .inr hj) F8.lt)
      have ft := ((HFrame.refl (h := h9) (F := []) (by simp)).pushTmp (.cells 0 false [.int .i64 0, .int .i64 0, .int .i64 0])).setTmp (i := h9.n) (Nat.le_refl _) (.cells 0 false (encT s))
      have gt : ((h9.push (.cells 0 false [.int .i64 0, .int .i64 0, .int .i64 0])).set h9.n (.cells 0 false (encT s))).get h9.n = .cells 0 false (encT s) := AHeap.get_set_same _ _ _
      have nt : ((h9.push (.cells 0 false [.int .i64 0, .int .i64 0, .int .i64 0])).set h9.n (.cells 0 false (encT s))).n = h9.n + 1 := by simp
      simp only [encT] at ft gt nt
      simp -implicitDefEqProofs (disch := first | decide | assumption | omega | (simp -implicitDefEqProofs only [AM.RN]; first | done | omega) | fail) only [↓AM.R0, AM.R1, AM.R2, Nat.reduceAdd, Nat.reduceLeDiff, Nat.reduceEqDiff, Int.reduceToNat, Nat.reduceLT, ↓reduceIte, Int.reduceEq, Int.reduceLT, Int.reduceLE, encT, e5]
      generalize ((h9.push (.cells 0 false [.int .i64 0, .int .i64 0, .int .i64 0])).set h9.n (.cells 0 false [.int .i64 (s.a : Int), .int .i64 (s.k : Int), .int .i64 s.t])) = ha at *
      have Pa := P9.keep ft
      have Ra := R9.keep ft
      have qa := (ft.get h7.n (by omega) (by simp)).trans q9
      have Fa := F9.trans (ft.wide (by simp) (fun j hj => .inr hj) F9.lt)
      refine AM.callI_of (countsS Pa) ?_
      rintro w hb ⟨fb, m, hm, rfl⟩
      have Pb := Pa.keep fb
      have Rb := Ra.keep fb
      have qb := (fb.get h7.n (by omega) (by simp)).trans qa
      have tb := (fb.get h9.n (by omega) (by simp)).trans gt
      have nb := fb.n
      have Fb := Fa.trans (fb.wide (by simp) (fun j hj => .inr hj) Fa.lt)
      have ub := Rb.obj
      have lub := Rb.lu
      simp -implicitDefEqProofs (disch := first | decide | assumption | omega | (simp -implicitDefEqProofs only [AM.RN]; first | done | omega) | fail) only [↓AM.R0, AM.R1, AM.R2, Nat.reduceAdd, Nat.reduceLeDiff, Nat.reduceEqDiff, Int.reduceToNat, Nat.reduceLT, ↓reduceIte, Int.reduceEq, Int.reduceLT, Int.reduceLE, e7, ub]
      refine AM.callI_of (rCounts Rb.R) ?_
      rintro w hc' ⟨hh, m', hm', rfl⟩
      rw [hh, hm.uniq hm']
      have bb : ∀ u : Bool, (u == u) = true := fun u => by cases u <;> rfl
      have w1 : IntKind.i64.wrap ((i : Int) + 1) = ((i + 1 : Nat) : Int) := (wrap64 (by omega) (by omega)).trans (by omega)
      have lq7 : h7.n < hb.n := by omega
      have lq9 : h9.n < hb.n := by omega
      simp -implicitDefEqProofs (disch := first | decide | assumption | omega | (simp -implicitDefEqProofs only [AM.RN]; first | done | omega) | fail) only [↓AM.R0, AM.R1, AM.R2, Nat.reduceAdd, Nat.reduceLeDiff, Nat.reduceEqDiff, Int.reduceToNat, Nat.reduceLT, ↓reduceIte, Int.reduceEq, Int.reduceLT, Int.reduceLE, e11, e54, qb, tb, bb, w1]
      exact ⟨k - 1, by omega, i + 1, ws, lv, L, v, G, by omega, e5, e7, e52, e53, rfl, Fb, Pb, Rb, d6⟩
    · refine AM.cI_bool (fun hd => ?_) (fun hd => ?_)
      · simp -implicitDefEqProofs (disch := first | decide | assumption | omega | (simp -implicitDefEqProofs only [AM.RN]; first | done | omega) | fail) only [↓AM.R0, AM.R1, AM.R2, Nat.reduceAdd, Nat.reduceLeDiff, Nat.reduceEqDiff, Int.reduceToNat, Nat.reduceLT, ↓reduceIte, Int.reduceEq, Int.reduceLT, Int.reduceLE, e5, g5]
        subst hTF
        refine AM.callI_of (allocS T5 P5 h0 A B) ?_
        rintro w h6 ⟨ws6, lv6, L6, f6, P6, A6⟩
        have R6 := R5.keepD f6 (fun j hj hm => d4 j hm hj)
        have g6 := (f6.get _ l4 oT).trans g5
        have n6 := f6.n
        have F6 := F5.left f6
        obtain ⟨s, ee, hw⟩ := A6.shape
        subst hw
        have P6' := P6
        have fq := ((HFrame.refl (h := h6) (F := []) (by simp)).pushTmp (.cells 0 false [.int .i64 0, .int .i64 0, .int .i64 0])).setTmp (i := h6.n) (Nat.le_refl _) (.cells 0 false (encT s))
        have gq : ((h6.push (.cells 0 false [.int .i64 0, .int .i64 0, .int .i64 0])).set h6.n (.cells 0 false (encT s))).get h6.n = .cells 0 false (encT s) := AHeap.get_set_same _ _ _
        have nq : ((h6.push (.cells 0 false [.int .i64 0, .int .i64 0, .int .i64 0])).set h6.n (.cells 0 false (encT s))).n = h6.n + 1 := by simp
        simp only [encT] at fq gq nq
        have l8 : h4.n < ((h6.push (.cells 0 false [.int .i64 0, .int .i64 0, .int .i64 0])).set h6.n (.cells 0 false [.int .i64 (s.a : Int), .int .i64 (s.k : Int), .int .i64 s.t])).n := by omega
        simp -implicitDefEqProofs (disch := first | decide | assumption | omega | (simp -implicitDefEqProofs only [AM.RN]; first | done | omega) | fail) only [↓AM.R0, AM.R1, AM.R2, Nat.reduceAdd, Nat.reduceLeDiff, Nat.reduceEqDiff, Int.reduceToNat, Nat.reduceLT, ↓reduceIte, Int.reduceEq, Int.reduceLT, Int.reduceLE, encT, e7, g6]
        generalize ((h6.push (.cells 0 false [.int .i64 0, .int .i64 0, .int .i64 0])).set h6.n (.cells 0 false [.int .i64 (s.a : Int), .int .i64 (s.k : Int), .int .i64 s.t])) = h7 at *
        have P7 := P6.keep fq
        have R7 := R6.keep fq
        have g7 := (fq.get _ (by omega) (by simp)).trans g6
        have F7 := F6.trans (fq.wide (by simp) (fun j hj => .inr hj) F6.lt)
        have oq : h6.n ∉ [u, r, b] ++ G := fun hm => by have := F6.lt _ (List.mem_append_right _ hm); omega
        refine AM.callI_of (rsAlloc R7 A B) ?_
        rintro w h8 ⟨g, L8, v8, G8, f8, R8, A8⟩
        obtain ⟨hg, hL, hw⟩ := A6.det A8
        subst hg hL hw
        have P8 := P7.keepD f8 d4
        have d8 := f8.dis d4 P7.flt
        have F8 := F7.right f8
        have q8 := (f8.get h6.n (by omega) oq).trans gq
        have g8 := (f8.get h4.n (by omega) oU).trans g7
        have n8 := f8.n
        have ft := ((HFrame.refl (h := h8) (F := []) (by simp)).pushTmp (.cells 0 false [.int .i64 0, .int .i64 0, .int .i64 0])).setTmp (i := h8.n) (Nat.le_refl _) (.cells 0 false (encT s))
        have gt : ((h8.push (.cells 0 false [.int .i64 0, .int .i64 0, .int .i64 0])).set h8.n (.cells 0 false (encT s))).get h8.n = .cells 0 false (encT s) := AHeap.get_set_same _ _ _
        have nt : ((h8.push (.cells 0 false [.int .i64 0, .int .i64 0, .int .i64 0])).set h8.n (.cells 0 false (encT s))).n = h8.n + 1 := by simp
        simp only [encT] at ft gt nt
        have lq6 : h6.n < ((h8.push (.cells 0 false [.int .i64 0, .int .i64 0, .int .i64 0])).set h8.n (.cells 0 false [.int .i64 (s.a : Int), .int .i64 (s.k : Int), .int .i64 s.t])).n := by omega
        simp -implicitDefEqProofs (disch := first | decide | assumption | omega | (simp -implicitDefEqProofs only [AM.RN]; first | done | omega) | fail) only [↓AM.R0, AM.R1, AM.R2, Nat.reduceAdd, Nat.reduceLeDiff, Nat.reduceEqDiff, Int.reduceToNat, Nat.reduceLT, ↓reduceIte, Int.reduceEq, Int.reduceLT, Int.reduceLE, encT, q8]
        generalize ((h8.push (.cells 0 false [.int .i64 0, .int .i64 0, .int .i64 0])).set h8.n (.cells 0 false [.int .i64 (s.a : Int), .int .i64 (s.k : Int), .int .i64 s.t])) = h9 at *
        exact ⟨ws6, lv6, L6, v8, G8, e5, e7, e52, e53, e54, F8.trans (ft.wide (by simp) (fun j hj => .inr hj) F8.lt), P8.keep ft, R8.keep ft, d8, g8, by omega⟩
      · clear hd
        simp -implicitDefEqProofs (disch := first | decide | assumption | omega | (simp -implicitDefEqProofs only [AM.RN]; first | done | omega) | fail) only [↓AM.R0, AM.R1, AM.R2, Nat.reduceAdd, Nat.reduceLeDiff, Nat.reduceEqDiff, Int.reduceToNat, Nat.reduceLT, ↓reduceIte, Int.reduceEq, Int.reduceLT, Int.reduceLE]
        refine AM.cI_bool (fun hd => ?_) (fun hd => ?_)
        · simp -implicitDefEqProofs (disch := first | decide | assumption | omega | (simp -implicitDefEqProofs only [AM.RN]; first | done | omega) | fail) only [↓AM.R0, AM.R1, AM.R2, Nat.reduceAdd, Nat.reduceLeDiff, Nat.reduceEqDiff, Int.reduceToNat, Nat.reduceLT, ↓reduceIte, Int.reduceEq, Int.reduceLT, Int.reduceLE, e5, e7, g5]
          subst hTF
          refine AM.trCall_of (freeS T5 P5 h0 A) ?_
          rintro w h6 ⟨ws6, lv6, L6, f6, P6, A6⟩
          have R6 := R5.keepD f6 (fun j hj hm => d4 j hm hj)
          have g6 := (f6.get _ l4 oT).trans g5
          have n6 := f6.n
          have F6 := F5.left f6
          obtain ⟨ee, hw⟩ := A6.shape
          subst hw
          have l6 : h4.n < h6.n := by omega
          simp -implicitDefEqProofs (disch := first | decide | assumption | omega | (simp -implicitDefEqProofs only [AM.RN]; first | done | omega) | fail) only [↓AM.R0, AM.R1, AM.R2, Nat.reduceAdd, Nat.reduceLeDiff, Nat.reduceEqDiff, Int.reduceToNat, Nat.reduceLT, ↓reduceIte, Int.reduceEq, Int.reduceLT, Int.reduceLE, e5, e7, g5, g6]
          refine AM.trCall_of (rsFree R6 A) ?_
          rintro w h8 ⟨g, L8, v8, G8, f8, R8, A8⟩
          obtain ⟨hg, hL, hw⟩ := A6.det P5.I A8
          subst hg hL hw
          have P8 := P6.keepD f8 d4
          have d8 := f8.dis d4 P6.flt
          have F8 := F6.right f8
          have g8 := (f8.get h4.n (by omega) oU).trans g6
          have n8 := f8.n
          have l8 : h4.n < h8.n := by omega
          simp -implicitDefEqProofs (disch := first | decide | assumption | omega | (simp -implicitDefEqProofs only [AM.RN]; first | done | omega) | fail) only [↓AM.R0, AM.R1, AM.R2, Nat.reduceAdd, Nat.reduceLeDiff, Nat.reduceEqDiff, Int.reduceToNat, Nat.reduceLT, ↓reduceIte, Int.reduceEq, Int.reduceLT, Int.reduceLE, e5, e7, g5, g6, g8]
          exact ⟨ws6, lv6, L6, v8, G8, e52, e53, e54, F8, P8, R8, d8, l8⟩
        · simp -implicitDefEqProofs (disch := first | decide | assumption | omega | (simp -implicitDefEqProofs only [AM.RN]; first | done | omega) | fail) only [↓AM.R0, AM.R1, AM.R2, Nat.reduceAdd, Nat.reduceLeDiff, Nat.reduceEqDiff, Int.reduceToNat, Nat.reduceLT, ↓reduceIte, Int.reduceEq, Int.reduceLT, Int.reduceLE, e5, e7]
          exact ⟨ws, lv, L, v, G, e52, e53, e54, F5, P5, R5, d4, g5, l4⟩
  · simp -implicitDefEqProofs (disch := first | decide | assumption | omega | (simp -implicitDefEqProofs only [AM.RN]; first | done | omega) | fail) only [↓AM.R0, AM.R1, AM.R2, Nat.reduceAdd, Nat.reduceLeDiff, Nat.reduceEqDiff, Int.reduceToNat, Nat.reduceLT, ↓reduceIte, Int.reduceEq, Int.reduceLT, Int.reduceLE, e5]
    refine AM.callI_of (lAll P4) ?_
    rintro w h5 ⟨w5, G5, f5, so5, rfl⟩
    have R5 := R4.keep f5
    have F5 := F4.trans (f5.wide (G := TF ++ ([u, r, b] ++ G)) (G' := TF ++ ([u, r, b] ++ G)) (by simp) (fun j hj => .inr hj) F4.lt)
    have ub := R5.obj
    have lub := R5.lu
    simp -implicitDefEqProofs (disch := first | decide | assumption | omega | (simp -implicitDefEqProofs only [AM.RN]; first | done | omega) | fail) only [↓AM.R0, AM.R1, AM.R2, Nat.reduceAdd, Nat.reduceLeDiff, Nat.reduceEqDiff, Int.reduceToNat, Nat.reduceLT, ↓reduceIte, Int.reduceEq, Int.reduceLT, Int.reduceLE, e7, ub]
    refine AM.callI_of (rsSame so5.rd R5.so.rd (by have := P4.I.len; have := P4.K.n2; omega)) ?_
    rintro w h7 ⟨rfl, rfl⟩
    simp -implicitDefEqProofs (disch := first | decide | assumption | omega | (simp -implicitDefEqProofs only [AM.RN]; first | done | omega) | fail) only [↓AM.R0, AM.R1, AM.R2, Nat.reduceAdd, Nat.reduceLeDiff, Nat.reduceEqDiff, Int.reduceToNat, Nat.reduceLT, ↓reduceIte, Int.reduceEq, Int.reduceLT, Int.reduceLE]
    subst hQ
    exact ⟨HFrame.non F5, rfl⟩
end Go.Proofs.YthillgheddpmhaaDoor.Pg

