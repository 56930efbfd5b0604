/-
  What the functions of this seat do, on the machine: lemmas for the laws.
-/
import Derived.Test.YtedomhceacongaaAmCh4
namespace Go.Proofs.Ytedomhceacongaa.Ch
open Go Go.AM Go.Proofs.Ytedomhceacongaa.AmGC
attribute [local irreducible] AM.wp AM.wpIs AM.wpTr AM.opI AM.gI AM.cI AM.trI AM.callI AM.fnI AM.trG AM.trOp AM.trCall AM.seqC AM.loopI
set_option maxRecDepth 100000
set_option linter.unusedVariables false
set_option linter.unusedSimpArgs false

theorem ChanIn.upd2 {h h' : AHeap} {c : Nat} {s s' : CS} {pv sv gv pv' sv' gv' : AVal} {Fp Fs Fg Fp' Fs' Fg' : List Nat} (H : ChanIn h c s pv sv gv Fp Fs Fg)
    (f : HFrame h h' (c :: (Fp ++ Fs ++ Fg)) (c :: (Fp' ++ Fs' ++ Fg'))) (nd : (c :: (Fp' ++ Fs' ++ Fg')).Nodup)
    (p : SlOf h' 1 encP pv' s'.ps Fp') (q : SlOf h' 2 encW sv' s'.ss Fs') (r : SlOf h' 2 encW gv' s'.gs Fg') :
    ChanIn (h'.set c (.cells 0 false [pv', .int .i64 s'.cap, .bool s'.cl, sv', gv'])) c s' pv' sv' gv' Fp' Fs' Fg' ∧
    HFrame h (h'.set c (.cells 0 false [pv', .int .i64 s'.cap, .bool s'.cl, sv', gv'])) (c :: (Fp ++ Fs ++ Fg)) (c :: (Fp' ++ Fs' ++ Fg')) := by
  have hc' : c ∉ Fp' ++ Fs' ++ Fg' := (List.nodup_cons.1 nd).1
  exact ⟨⟨AHeap.get_set_same _ _ _, Nat.lt_of_lt_of_le H.lt f.n, p.set (fun e => hc' (by simp [e])) _, q.set (fun e => hc' (by simp [e])) _, r.set (fun e => hc' (by simp [e])) _, nd⟩,
    f.trans (HFrame.set h' c _ List.mem_cons_self f.lt)⟩

theorem leave {h : AHeap} {c : Nat} {s : CS} {F : List Nat} (H : ChanAt h c s F) (id : Int) (hr : s.small) :
    CallP AP 17 [.ptr c 0 0, .int .i64 id] h fun r h' => ∃ F', HFrame h h' F F' ∧ ChanAt h' c { s with ss := keepW id s.ss, gs := keepW id s.gs } F' := by
  obtain ⟨r1, r2, r3⟩ := hr
  have hall := H.lt
  refine callP (rfl : Tr.get AP 17 = some A17) ?_
  generalize hQ : (fun (r : AVal) (h' : AHeap) => _) = Q
  obtain ⟨pv, sv, gv, Fp, Fs, Fg, H0, rfl⟩ := H
  have hlt0 := H0.lt
  have ho := H0.obj
  simp -implicitDefEqProofs (disch := first | decide | assumption | omega | (simp -implicitDefEqProofs only [AHeap.n_push, AHeap.n_set, List.length_cons, List.length_nil]; done) | (simp -implicitDefEqProofs only [AHeap.n_push, AHeap.n_set, List.length_cons, List.length_nil]; omega) | fail) only [↓AM.R0, AM.R1, List.reverse_cons, List.reverse_nil, Bool.or_true, Bool.true_or, Bool.false_or, Bool.or_false, List.map_cons, List.map_nil, List.nil_append, List.append_nil, List.cons_append, List.getElem?_cons_zero, List.getElem?_cons_succ, AHeap.n_push, AHeap.n_set, AHeap.get_set_same, AHeap.get_push_same, AHeap.get_set_ne, AHeap.get_push_ne, List.length_cons, List.length_nil, List.take_succ_cons, List.take_zero, List.drop_succ_cons, List.drop_zero, List.drop_nil, List.take_nil, Nat.zero_add, Nat.add_zero, Nat.zero_mul, Nat.one_mul, Nat.mul_one, Nat.add_sub_cancel, Nat.sub_zero, Int.toNat_zero, Int.toNat_one, Int.toNat_natCast, Option.map_some, Option.bind_some, List.all_cons, List.all_nil, Bool.and_self, Bool.and_true, Bool.true_and, and_self, and_true, true_and, eq_self, if_true, Bool.not_true, Bool.not_false, Bool.false_eq_true, if_false, decide_true, decide_false, Nat.reduceAdd, Nat.reduceLeDiff, Nat.reduceEqDiff, ↓reduceIte, Int.reduceEq, Int.reduceLT, Int.reduceLE, ho]
  refine AM.trCall_of (without H0.hs.rd id r2) ?_
  rintro v1 h1 ⟨F1, q1, f1⟩
  have ho1 := (f1.get c hlt0 (by simp)).trans ho
  have hlt1 : c < h1.n := Nat.lt_of_lt_of_le hlt0 f1.n
  simp -implicitDefEqProofs (disch := first | decide | assumption | omega | (simp -implicitDefEqProofs only [AHeap.n_push, AHeap.n_set, List.length_cons, List.length_nil]; done) | (simp -implicitDefEqProofs only [AHeap.n_push, AHeap.n_set, List.length_cons, List.length_nil]; omega) | fail) only [↓AM.R0, AM.R1, List.reverse_cons, List.reverse_nil, Bool.or_true, Bool.true_or, Bool.false_or, Bool.or_false, List.map_cons, List.map_nil, List.nil_append, List.append_nil, List.cons_append, List.getElem?_cons_zero, List.getElem?_cons_succ, AHeap.n_push, AHeap.n_set, AHeap.get_set_same, AHeap.get_push_same, AHeap.get_set_ne, AHeap.get_push_ne, List.length_cons, List.length_nil, List.take_succ_cons, List.take_zero, List.drop_succ_cons, List.drop_zero, List.drop_nil, List.take_nil, Nat.zero_add, Nat.add_zero, Nat.zero_mul, Nat.one_mul, Nat.mul_one, Nat.add_sub_cancel, Nat.sub_zero, Int.toNat_zero, Int.toNat_one, Int.toNat_natCast, Option.map_some, Option.bind_some, List.all_cons, List.all_nil, Bool.and_self, Bool.and_true, Bool.true_and, and_self, and_true, true_and, eq_self, if_true, Bool.not_true, Bool.not_false, Bool.false_eq_true, if_false, decide_true, decide_false, Nat.reduceAdd, Nat.reduceLeDiff, Nat.reduceEqDiff, ↓reduceIte, Int.reduceEq, Int.reduceLT, Int.reduceLE, ho1]
  refine AM.trCall_of (without (H0.hg.rd.keep f1) id r3) ?_
  rintro v2 h2 ⟨F2, q2, f2⟩
  have ho2 := (f2.get c hlt1 (by simp)).trans ho1
  have hlt2 : c < h2.n := Nat.lt_of_lt_of_le hlt1 f2.n
  have hgb := H0.hg.beq
  obtain ⟨d1, d2⟩ := q1.rd.cells
  obtain ⟨d3, d4⟩ := q2.rd.cells
  simp -implicitDefEqProofs (disch := first | decide | assumption | omega | (simp -implicitDefEqProofs only [AHeap.n_push, AHeap.n_set, List.length_cons, List.length_nil]; done) | (simp -implicitDefEqProofs only [AHeap.n_push, AHeap.n_set, List.length_cons, List.length_nil]; omega) | fail) only [↓AM.R0, AM.R1, List.reverse_cons, List.reverse_nil, Bool.or_true, Bool.true_or, Bool.false_or, Bool.or_false, List.map_cons, List.map_nil, List.nil_append, List.append_nil, List.cons_append, List.getElem?_cons_zero, List.getElem?_cons_succ, AHeap.n_push, AHeap.n_set, AHeap.get_set_same, AHeap.get_push_same, AHeap.get_set_ne, AHeap.get_push_ne, List.length_cons, List.length_nil, List.take_succ_cons, List.take_zero, List.drop_succ_cons, List.drop_zero, List.drop_nil, List.take_nil, Nat.zero_add, Nat.add_zero, Nat.zero_mul, Nat.one_mul, Nat.mul_one, Nat.add_sub_cancel, Nat.sub_zero, Int.toNat_zero, Int.toNat_one, Int.toNat_natCast, Option.map_some, Option.bind_some, List.all_cons, List.all_nil, Bool.and_self, Bool.and_true, Bool.true_and, and_self, and_true, true_and, eq_self, if_true, Bool.not_true, Bool.not_false, Bool.false_eq_true, if_false, decide_true, decide_false, Nat.reduceAdd, Nat.reduceLeDiff, Nat.reduceEqDiff, ↓reduceIte, Int.reduceEq, Int.reduceLT, Int.reduceLE, ho2, ho1, ho, d1, d2, d3, d4, hgb]
  have n1 : ∀ j, j ∈ F1 → h.n ≤ j ∧ j < h1.n := fun j hj => ⟨by rcases f1.new j hj with e | e; cases e; exact e, f1.lt j hj⟩
  have n2 : ∀ j, j ∈ F2 → h1.n ≤ j := fun j hj => by rcases f2.new j hj with e | e; cases e; exact e
  have q1' := q1.frame f2.n fun j hj => f2.get j (n1 j hj).2 (by simp)
  have nd : (c :: (Fp ++ F1 ++ F2)).Nodup := by
    have hp := H0.hp.nd
    have := H0.nd
    simp only [List.nodup_cons, List.mem_append, List.nodup_append, ne_eq, not_or] at this ⊢
    refine ⟨⟨⟨this.1.1.1, fun e => ?_⟩, fun e => ?_⟩, ⟨hp, q1.nd, fun a ha b hb e => ?_⟩, q2.nd, fun a ha b hb e => ?_⟩
    · have := n1 _ e; omega
    · have := n2 _ e; omega
    · subst e; have := n1 _ hb; have := H0.hp.lt _ ha; omega
    · subst e
      have e2 := n2 _ hb
      rcases ha with ha | ha
      · have := H0.hp.lt _ ha; have := f1.n; omega
      · have := n1 _ ha; omega
  have hc' : c ∉ Fp ++ F1 ++ F2 := (List.nodup_cons.1 nd).1
  have fa : HFrame h h2 (c :: (Fp ++ Fs ++ Fg)) (c :: (Fp ++ F1 ++ F2)) := by
    refine ⟨Nat.le_trans f1.n f2.n, f2.g.trans f1.g, fun j hj hn => (f2.get j (Nat.lt_of_lt_of_le hj f1.n) (by simp)).trans (f1.get j hj (by simp)), fun j hj => ?_, fun j hj => ?_⟩
    · simp only [List.mem_cons, List.mem_append] at hj ⊢
      rcases hj with e | (e | e) | e
      · exact .inl (.inl e)
      · exact .inl (.inr (.inl (.inl e)))
      · exact .inr (n1 j e).1
      · exact .inr (Nat.le_trans f1.n (n2 j e))
    · simp only [List.mem_cons, List.mem_append] at hj
      rcases hj with e | (e | e) | e
      · rw [e]; exact hlt2
      · exact Nat.lt_of_lt_of_le (H0.hp.lt j e) (Nat.le_trans f1.n f2.n)
      · exact Nat.lt_of_lt_of_le (n1 j e).2 f2.n
      · exact f2.lt j e
  have p' := H0.hp.frame (Nat.le_trans f1.n f2.n) fun j hj => (f2.get j (Nat.lt_of_lt_of_le (H0.hp.lt j hj) f1.n) (by simp)).trans (f1.get j (H0.hp.lt j hj) (by simp))
  have fb := fa.trans (HFrame.set h2 c (.cells 0 false [pv, .int .i64 s.cap, .bool s.cl, v1, gv]) List.mem_cons_self fa.lt)
  have key := ChanIn.upd2 (s' := { s with ss := keepW id s.ss, gs := keepW id s.gs }) H0 fb nd (p'.set (fun e => hc' (by simp [e])) _) (q1'.set (fun e => hc' (by simp [e])) _) (q2.set (fun e => hc' (by simp [e])) _)
  subst hQ
  exact ⟨_, key.2, key.1.at⟩

theorem new (h : AHeap) (n : Int) :
    CallP AP 9 [.int .i64 n] h fun r h' => (if n < 0 ∨ 16 < n then r = .tup [.nilp, .int .i64 1] ∧ h' = h else
      r = .tup [.ptr h.n 0 0, .int .i64 0] ∧ h' = h.push (.cells 0 false [.nils, .int .i64 n, .bool false, .nils, .nils])) := by
  refine callP (rfl : Tr.get AP 9 = some A9) ?_
  generalize hQ : (fun (r : AVal) (h' : AHeap) => _) = Q
  simp -implicitDefEqProofs (disch := first | decide | assumption | omega | (simp -implicitDefEqProofs only [AHeap.n_push, AHeap.n_set, List.length_cons, List.length_nil]; done) | (simp -implicitDefEqProofs only [AHeap.n_push, AHeap.n_set, List.length_cons, List.length_nil]; omega) | fail) only [↓AM.R0, AM.R1, List.reverse_cons, List.reverse_nil, Bool.or_true, Bool.true_or, Bool.false_or, Bool.or_false, List.map_cons, List.map_nil, List.nil_append, List.append_nil, List.cons_append, List.getElem?_cons_zero, List.getElem?_cons_succ, AHeap.n_push, AHeap.n_set, AHeap.get_set_same, AHeap.get_push_same, AHeap.get_set_ne, AHeap.get_push_ne, List.length_cons, List.length_nil, List.take_succ_cons, List.take_zero, List.drop_succ_cons, List.drop_zero, List.drop_nil, List.take_nil, Nat.zero_add, Nat.add_zero, Nat.zero_mul, Nat.one_mul, Nat.mul_one, Nat.add_sub_cancel, Nat.sub_zero, Int.toNat_zero, Int.toNat_one, Int.toNat_natCast, Option.map_some, Option.bind_some, List.all_cons, List.all_nil, Bool.and_self, Bool.and_true, Bool.true_and, and_self, and_true, true_and, eq_self, if_true, Bool.not_true, Bool.not_false, Bool.false_eq_true, if_false, decide_true, decide_false, Nat.reduceAdd, Nat.reduceLeDiff, Nat.reduceEqDiff, ↓reduceIte, Int.reduceEq, Int.reduceLT, Int.reduceLE]
  refine AM.gI_bool (fun hb => ?_) (fun hb => ?_)
  · simp -implicitDefEqProofs (disch := first | decide | assumption | omega | (simp -implicitDefEqProofs only [AHeap.n_push, AHeap.n_set, List.length_cons, List.length_nil]; done) | (simp -implicitDefEqProofs only [AHeap.n_push, AHeap.n_set, List.length_cons, List.length_nil]; omega) | fail) only [↓AM.R0, AM.R1, List.reverse_cons, List.reverse_nil, Bool.or_true, Bool.true_or, Bool.false_or, Bool.or_false, List.map_cons, List.map_nil, List.nil_append, List.append_nil, List.cons_append, List.getElem?_cons_zero, List.getElem?_cons_succ, AHeap.n_push, AHeap.n_set, AHeap.get_set_same, AHeap.get_push_same, AHeap.get_set_ne, AHeap.get_push_ne, List.length_cons, List.length_nil, List.take_succ_cons, List.take_zero, List.drop_succ_cons, List.drop_zero, List.drop_nil, List.take_nil, Nat.zero_add, Nat.add_zero, Nat.zero_mul, Nat.one_mul, Nat.mul_one, Nat.add_sub_cancel, Nat.sub_zero, Int.toNat_zero, Int.toNat_one, Int.toNat_natCast, Option.map_some, Option.bind_some, List.all_cons, List.all_nil, Bool.and_self, Bool.and_true, Bool.true_and, and_self, and_true, true_and, eq_self, if_true, Bool.not_true, Bool.not_false, Bool.false_eq_true, if_false, decide_true, decide_false, Nat.reduceAdd, Nat.reduceLeDiff, Nat.reduceEqDiff, ↓reduceIte, Int.reduceEq, Int.reduceLT, Int.reduceLE, hb]
    subst hQ
    simp only [decide_eq_true_eq] at hb
    simp [hb]
  · simp -implicitDefEqProofs (disch := first | decide | assumption | omega | (simp -implicitDefEqProofs only [AHeap.n_push, AHeap.n_set, List.length_cons, List.length_nil]; done) | (simp -implicitDefEqProofs only [AHeap.n_push, AHeap.n_set, List.length_cons, List.length_nil]; omega) | fail) only [↓AM.R0, AM.R1, List.reverse_cons, List.reverse_nil, Bool.or_true, Bool.true_or, Bool.false_or, Bool.or_false, List.map_cons, List.map_nil, List.nil_append, List.append_nil, List.cons_append, List.getElem?_cons_zero, List.getElem?_cons_succ, AHeap.n_push, AHeap.n_set, AHeap.get_set_same, AHeap.get_push_same, AHeap.get_set_ne, AHeap.get_push_ne, List.length_cons, List.length_nil, List.take_succ_cons, List.take_zero, List.drop_succ_cons, List.drop_zero, List.drop_nil, List.take_nil, Nat.zero_add, Nat.add_zero, Nat.zero_mul, Nat.one_mul, Nat.mul_one, Nat.add_sub_cancel, Nat.sub_zero, Int.toNat_zero, Int.toNat_one, Int.toNat_natCast, Option.map_some, Option.bind_some, List.all_cons, List.all_nil, Bool.and_self, Bool.and_true, Bool.true_and, and_self, and_true, true_and, eq_self, if_true, Bool.not_true, Bool.not_false, Bool.false_eq_true, if_false, decide_true, decide_false, Nat.reduceAdd, Nat.reduceLeDiff, Nat.reduceEqDiff, ↓reduceIte, Int.reduceEq, Int.reduceLT, Int.reduceLE, hb]
    simp only [decide_eq_false_iff_not] at hb
    refine AM.cI_bool (fun hc => ?_) (fun hc => ?_)
    · simp -implicitDefEqProofs (disch := first | decide | assumption | omega | (simp -implicitDefEqProofs only [AHeap.n_push, AHeap.n_set, List.length_cons, List.length_nil]; done) | (simp -implicitDefEqProofs only [AHeap.n_push, AHeap.n_set, List.length_cons, List.length_nil]; omega) | fail) only [↓AM.R0, AM.R1, List.reverse_cons, List.reverse_nil, Bool.or_true, Bool.true_or, Bool.false_or, Bool.or_false, List.map_cons, List.map_nil, List.nil_append, List.append_nil, List.cons_append, List.getElem?_cons_zero, List.getElem?_cons_succ, AHeap.n_push, AHeap.n_set, AHeap.get_set_same, AHeap.get_push_same, AHeap.get_set_ne, AHeap.get_push_ne, List.length_cons, List.length_nil, List.take_succ_cons, List.take_zero, List.drop_succ_cons, List.drop_zero, List.drop_nil, List.take_nil, Nat.zero_add, Nat.add_zero, Nat.zero_mul, Nat.one_mul, Nat.mul_one, Nat.add_sub_cancel, Nat.sub_zero, Int.toNat_zero, Int.toNat_one, Int.toNat_natCast, Option.map_some, Option.bind_some, List.all_cons, List.all_nil, Bool.and_self, Bool.and_true, Bool.true_and, and_self, and_true, true_and, eq_self, if_true, Bool.not_true, Bool.not_false, Bool.false_eq_true, if_false, decide_true, decide_false, Nat.reduceAdd, Nat.reduceLeDiff, Nat.reduceEqDiff, ↓reduceIte, Int.reduceEq, Int.reduceLT, Int.reduceLE]
      subst hQ
      simp only [decide_eq_true_eq] at hc
      simp [hb, hc]
    · simp -implicitDefEqProofs (disch := first | decide | assumption | omega | (simp -implicitDefEqProofs only [AHeap.n_push, AHeap.n_set, List.length_cons, List.length_nil]; done) | (simp -implicitDefEqProofs only [AHeap.n_push, AHeap.n_set, List.length_cons, List.length_nil]; omega) | fail) only [↓AM.R0, AM.R1, List.reverse_cons, List.reverse_nil, Bool.or_true, Bool.true_or, Bool.false_or, Bool.or_false, List.map_cons, List.map_nil, List.nil_append, List.append_nil, List.cons_append, List.getElem?_cons_zero, List.getElem?_cons_succ, AHeap.n_push, AHeap.n_set, AHeap.get_set_same, AHeap.get_push_same, AHeap.get_set_ne, AHeap.get_push_ne, List.length_cons, List.length_nil, List.take_succ_cons, List.take_zero, List.drop_succ_cons, List.drop_zero, List.drop_nil, List.take_nil, Nat.zero_add, Nat.add_zero, Nat.zero_mul, Nat.one_mul, Nat.mul_one, Nat.add_sub_cancel, Nat.sub_zero, Int.toNat_zero, Int.toNat_one, Int.toNat_natCast, Option.map_some, Option.bind_some, List.all_cons, List.all_nil, Bool.and_self, Bool.and_true, Bool.true_and, and_self, and_true, true_and, eq_self, if_true, Bool.not_true, Bool.not_false, Bool.false_eq_true, if_false, decide_true, decide_false, Nat.reduceAdd, Nat.reduceLeDiff, Nat.reduceEqDiff, ↓reduceIte, Int.reduceEq, Int.reduceLT, Int.reduceLE]
      subst hQ
      simp only [decide_eq_false_iff_not] at hc
      simp [hb, hc]

theorem chan0 (h : AHeap) (n : Int) : ChanAt (h.push (.cells 0 false [.nils, .int .i64 n, .bool false, .nils, .nils])) h.n ⟨[], n, false, [], []⟩ [h.n] :=
  ⟨.nils, .nils, .nils, [], [], [], ⟨AHeap.get_push_same _ _, by simp, SlOf.nil, SlOf.nil, SlOf.nil, by simp⟩, rfl⟩

theorem counts {h : AHeap} {c : Nat} {s : CS} {F : List Nat} (H : ChanAt h c s F) :
    CallP AP 15 [.ptr c 0 0] h fun r h' => r = .tup [.int .i64 s.ps.length, .int .i64 s.ss.length, .int .i64 s.gs.length] ∧ h' = h := by
  refine callP (rfl : Tr.get AP 15 = some A15) ?_
  generalize hQ : (fun (r : AVal) (h' : AHeap) => _) = Q
  obtain ⟨pv, sv, gv, Fp, Fs, Fg, H0, rfl⟩ := H
  have hlt0 := H0.lt
  have ho := H0.obj
  have lp := H0.hp.len
  have ls := H0.hs.len
  have lg := H0.hg.len
  simp -implicitDefEqProofs (disch := first | decide | assumption | omega | (simp -implicitDefEqProofs only [AHeap.n_push, AHeap.n_set, List.length_cons, List.length_nil]; done) | (simp -implicitDefEqProofs only [AHeap.n_push, AHeap.n_set, List.length_cons, List.length_nil]; omega) | fail) only [↓AM.R0, AM.R1, List.reverse_cons, List.reverse_nil, Bool.or_true, Bool.true_or, Bool.false_or, Bool.or_false, List.map_cons, List.map_nil, List.nil_append, List.append_nil, List.cons_append, List.getElem?_cons_zero, List.getElem?_cons_succ, AHeap.n_push, AHeap.n_set, AHeap.get_set_same, AHeap.get_push_same, AHeap.get_set_ne, AHeap.get_push_ne, List.length_cons, List.length_nil, List.take_succ_cons, List.take_zero, List.drop_succ_cons, List.drop_zero, List.drop_nil, List.take_nil, Nat.zero_add, Nat.add_zero, Nat.zero_mul, Nat.one_mul, Nat.mul_one, Nat.add_sub_cancel, Nat.sub_zero, Int.toNat_zero, Int.toNat_one, Int.toNat_natCast, Option.map_some, Option.bind_some, List.all_cons, List.all_nil, Bool.and_self, Bool.and_true, Bool.true_and, and_self, and_true, true_and, eq_self, if_true, Bool.not_true, Bool.not_false, Bool.false_eq_true, if_false, decide_true, decide_false, Nat.reduceAdd, Nat.reduceLeDiff, Nat.reduceEqDiff, ↓reduceIte, Int.reduceEq, Int.reduceLT, Int.reduceLE, ho, lp, ls, lg]
  subst hQ
  exact ⟨rfl, rfl⟩

theorem closed {h : AHeap} {c : Nat} {s : CS} {F : List Nat} (H : ChanAt h c s F) :
    CallP AP 19 [.ptr c 0 0] h fun r h' => r = .bool s.cl ∧ h' = h := by
  refine callP (rfl : Tr.get AP 19 = some A19) ?_
  generalize hQ : (fun (r : AVal) (h' : AHeap) => _) = Q
  obtain ⟨pv, sv, gv, Fp, Fs, Fg, H0, rfl⟩ := H
  have hlt0 := H0.lt
  have ho := H0.obj
  simp -implicitDefEqProofs (disch := first | decide | assumption | omega | (simp -implicitDefEqProofs only [AHeap.n_push, AHeap.n_set, List.length_cons, List.length_nil]; done) | (simp -implicitDefEqProofs only [AHeap.n_push, AHeap.n_set, List.length_cons, List.length_nil]; omega) | fail) only [↓AM.R0, AM.R1, List.reverse_cons, List.reverse_nil, Bool.or_true, Bool.true_or, Bool.false_or, Bool.or_false, List.map_cons, List.map_nil, List.nil_append, List.append_nil, List.cons_append, List.getElem?_cons_zero, List.getElem?_cons_succ, AHeap.n_push, AHeap.n_set, AHeap.get_set_same, AHeap.get_push_same, AHeap.get_set_ne, AHeap.get_push_ne, List.length_cons, List.length_nil, List.take_succ_cons, List.take_zero, List.drop_succ_cons, List.drop_zero, List.drop_nil, List.take_nil, Nat.zero_add, Nat.add_zero, Nat.zero_mul, Nat.one_mul, Nat.mul_one, Nat.add_sub_cancel, Nat.sub_zero, Int.toNat_zero, Int.toNat_one, Int.toNat_natCast, Option.map_some, Option.bind_some, List.all_cons, List.all_nil, Bool.and_self, Bool.and_true, Bool.true_and, and_self, and_true, true_and, eq_self, if_true, Bool.not_true, Bool.not_false, Bool.false_eq_true, if_false, decide_true, decide_false, Nat.reduceAdd, Nat.reduceLeDiff, Nat.reduceEqDiff, ↓reduceIte, Int.reduceEq, Int.reduceLT, Int.reduceLE, ho]
  subst hQ
  exact ⟨rfl, rfl⟩

def CS.ready (s : CS) (b : Bool) : Bool := s.cl || (if b then decide (0 < s.gs.length) || decide ((s.ps.length : Int) < s.cap) else decide (0 < s.ss.length) || decide (0 < s.ps.length))

theorem ready {h : AHeap} {c : Nat} {s : CS} {F : List Nat} (H : ChanAt h c s F) (b : Bool) :
    CallP AP 18 [.ptr c 0 0, .bool b] h fun r h' => r = .bool (s.ready b) ∧ h' = h := by
  refine callP (rfl : Tr.get AP 18 = some A18) ?_
  generalize hQ : (fun (r : AVal) (h' : AHeap) => _) = Q
  obtain ⟨pv, sv, gv, Fp, Fs, Fg, H0, rfl⟩ := H
  have hlt0 := H0.lt
  have ho := H0.obj
  have lp := H0.hp.len
  have ls := H0.hs.len
  have lg := H0.hg.len
  cases b
  all_goals
    simp -implicitDefEqProofs (disch := first | decide | assumption | omega | (simp -implicitDefEqProofs only [AHeap.n_push, AHeap.n_set, List.length_cons, List.length_nil]; done) | (simp -implicitDefEqProofs only [AHeap.n_push, AHeap.n_set, List.length_cons, List.length_nil]; omega) | fail) only [↓AM.R0, AM.R1, List.reverse_cons, List.reverse_nil, Bool.or_true, Bool.true_or, Bool.false_or, Bool.or_false, List.map_cons, List.map_nil, List.nil_append, List.append_nil, List.cons_append, List.getElem?_cons_zero, List.getElem?_cons_succ, AHeap.n_push, AHeap.n_set, AHeap.get_set_same, AHeap.get_push_same, AHeap.get_set_ne, AHeap.get_push_ne, List.length_cons, List.length_nil, List.take_succ_cons, List.take_zero, List.drop_succ_cons, List.drop_zero, List.drop_nil, List.take_nil, Nat.zero_add, Nat.add_zero, Nat.zero_mul, Nat.one_mul, Nat.mul_one, Nat.add_sub_cancel, Nat.sub_zero, Int.toNat_zero, Int.toNat_one, Int.toNat_natCast, Option.map_some, Option.bind_some, List.all_cons, List.all_nil, Bool.and_self, Bool.and_true, Bool.true_and, and_self, and_true, true_and, eq_self, if_true, Bool.not_true, Bool.not_false, Bool.false_eq_true, if_false, decide_true, decide_false, Nat.reduceAdd, Nat.reduceLeDiff, Nat.reduceEqDiff, ↓reduceIte, Int.reduceEq, Int.reduceLT, Int.reduceLE, ho, lp, ls, lg]
    refine AM.gI_bool (fun hb => ?_) (fun hb => ?_)
    · simp -implicitDefEqProofs (disch := first | decide | assumption | omega | (simp -implicitDefEqProofs only [AHeap.n_push, AHeap.n_set, List.length_cons, List.length_nil]; done) | (simp -implicitDefEqProofs only [AHeap.n_push, AHeap.n_set, List.length_cons, List.length_nil]; omega) | fail) only [↓AM.R0, AM.R1, List.reverse_cons, List.reverse_nil, Bool.or_true, Bool.true_or, Bool.false_or, Bool.or_false, List.map_cons, List.map_nil, List.nil_append, List.append_nil, List.cons_append, List.getElem?_cons_zero, List.getElem?_cons_succ, AHeap.n_push, AHeap.n_set, AHeap.get_set_same, AHeap.get_push_same, AHeap.get_set_ne, AHeap.get_push_ne, List.length_cons, List.length_nil, List.take_succ_cons, List.take_zero, List.drop_succ_cons, List.drop_zero, List.drop_nil, List.take_nil, Nat.zero_add, Nat.add_zero, Nat.zero_mul, Nat.one_mul, Nat.mul_one, Nat.add_sub_cancel, Nat.sub_zero, Int.toNat_zero, Int.toNat_one, Int.toNat_natCast, Option.map_some, Option.bind_some, List.all_cons, List.all_nil, Bool.and_self, Bool.and_true, Bool.true_and, and_self, and_true, true_and, eq_self, if_true, Bool.not_true, Bool.not_false, Bool.false_eq_true, if_false, decide_true, decide_false, Nat.reduceAdd, Nat.reduceLeDiff, Nat.reduceEqDiff, ↓reduceIte, Int.reduceEq, Int.reduceLT, Int.reduceLE, hb]
      subst hQ
      simp [CS.ready, hb]
    · simp -implicitDefEqProofs (disch := first | decide | assumption | omega | (simp -implicitDefEqProofs only [AHeap.n_push, AHeap.n_set, List.length_cons, List.length_nil]; done) | (simp -implicitDefEqProofs only [AHeap.n_push, AHeap.n_set, List.length_cons, List.length_nil]; omega) | fail) only [↓AM.R0, AM.R1, List.reverse_cons, List.reverse_nil, Bool.or_true, Bool.true_or, Bool.false_or, Bool.or_false, List.map_cons, List.map_nil, List.nil_append, List.append_nil, List.cons_append, List.getElem?_cons_zero, List.getElem?_cons_succ, AHeap.n_push, AHeap.n_set, AHeap.get_set_same, AHeap.get_push_same, AHeap.get_set_ne, AHeap.get_push_ne, List.length_cons, List.length_nil, List.take_succ_cons, List.take_zero, List.drop_succ_cons, List.drop_zero, List.drop_nil, List.take_nil, Nat.zero_add, Nat.add_zero, Nat.zero_mul, Nat.one_mul, Nat.mul_one, Nat.add_sub_cancel, Nat.sub_zero, Int.toNat_zero, Int.toNat_one, Int.toNat_natCast, Option.map_some, Option.bind_some, List.all_cons, List.all_nil, Bool.and_self, Bool.and_true, Bool.true_and, and_self, and_true, true_and, eq_self, if_true, Bool.not_true, Bool.not_false, Bool.false_eq_true, if_false, decide_true, decide_false, Nat.reduceAdd, Nat.reduceLeDiff, Nat.reduceEqDiff, ↓reduceIte, Int.reduceEq, Int.reduceLT, Int.reduceLE, hb, ho, lp, ls, lg]
      refine AM.gI_bool (fun hc => ?_) (fun hc => ?_)
      · simp -implicitDefEqProofs (disch := first | decide | assumption | omega | (simp -implicitDefEqProofs only [AHeap.n_push, AHeap.n_set, List.length_cons, List.length_nil]; done) | (simp -implicitDefEqProofs only [AHeap.n_push, AHeap.n_set, List.length_cons, List.length_nil]; omega) | fail) only [↓AM.R0, AM.R1, List.reverse_cons, List.reverse_nil, Bool.or_true, Bool.true_or, Bool.false_or, Bool.or_false, List.map_cons, List.map_nil, List.nil_append, List.append_nil, List.cons_append, List.getElem?_cons_zero, List.getElem?_cons_succ, AHeap.n_push, AHeap.n_set, AHeap.get_set_same, AHeap.get_push_same, AHeap.get_set_ne, AHeap.get_push_ne, List.length_cons, List.length_nil, List.take_succ_cons, List.take_zero, List.drop_succ_cons, List.drop_zero, List.drop_nil, List.take_nil, Nat.zero_add, Nat.add_zero, Nat.zero_mul, Nat.one_mul, Nat.mul_one, Nat.add_sub_cancel, Nat.sub_zero, Int.toNat_zero, Int.toNat_one, Int.toNat_natCast, Option.map_some, Option.bind_some, List.all_cons, List.all_nil, Bool.and_self, Bool.and_true, Bool.true_and, and_self, and_true, true_and, eq_self, if_true, Bool.not_true, Bool.not_false, Bool.false_eq_true, if_false, decide_true, decide_false, Nat.reduceAdd, Nat.reduceLeDiff, Nat.reduceEqDiff, ↓reduceIte, Int.reduceEq, Int.reduceLT, Int.reduceLE, hb, hc]
        subst hQ
        simp only [decide_eq_true_eq] at hc
        simp only [CS.ready, hb]
        simp
        omega
      · simp -implicitDefEqProofs (disch := first | decide | assumption | omega | (simp -implicitDefEqProofs only [AHeap.n_push, AHeap.n_set, List.length_cons, List.length_nil]; done) | (simp -implicitDefEqProofs only [AHeap.n_push, AHeap.n_set, List.length_cons, List.length_nil]; omega) | fail) only [↓AM.R0, AM.R1, List.reverse_cons, List.reverse_nil, Bool.or_true, Bool.true_or, Bool.false_or, Bool.or_false, List.map_cons, List.map_nil, List.nil_append, List.append_nil, List.cons_append, List.getElem?_cons_zero, List.getElem?_cons_succ, AHeap.n_push, AHeap.n_set, AHeap.get_set_same, AHeap.get_push_same, AHeap.get_set_ne, AHeap.get_push_ne, List.length_cons, List.length_nil, List.take_succ_cons, List.take_zero, List.drop_succ_cons, List.drop_zero, List.drop_nil, List.take_nil, Nat.zero_add, Nat.add_zero, Nat.zero_mul, Nat.one_mul, Nat.mul_one, Nat.add_sub_cancel, Nat.sub_zero, Int.toNat_zero, Int.toNat_one, Int.toNat_natCast, Option.map_some, Option.bind_some, List.all_cons, List.all_nil, Bool.and_self, Bool.and_true, Bool.true_and, and_self, and_true, true_and, eq_self, if_true, Bool.not_true, Bool.not_false, Bool.false_eq_true, if_false, decide_true, decide_false, Nat.reduceAdd, Nat.reduceLeDiff, Nat.reduceEqDiff, ↓reduceIte, Int.reduceEq, Int.reduceLT, Int.reduceLE, hb, hc, ho, lp, ls, lg]
        subst hQ
        simp only [decide_eq_false_iff_not] at hc
        have : s.ready = s.ready := rfl
        simp only [CS.ready, hb]
        simp
        try omega
end Go.Proofs.Ytedomhceacongaa.Ch
