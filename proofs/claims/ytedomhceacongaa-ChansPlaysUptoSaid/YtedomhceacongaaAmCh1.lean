/-
  What the functions of this seat do, on the machine: lemmas for the laws.
-/
import Derived.Test.YtedomhceacongaaAmRules
import Derived.Test.YtedomhceacongaaAmCK
namespace Go.Proofs.Ytedomhceacongaa.Ch
open Go Go.AM Go.Proofs.Ytedomhceacongaa.AmGC
attribute [local irreducible] AM.wp AM.wpIs AM.wpTr AM.opI AM.gI AM.cI AM.trI AM.callI AM.fnI AM.trG AM.trOp AM.trCall AM.seqC AM.loopI
set_option maxRecDepth 100000
set_option linter.unusedVariables false
set_option linter.unusedSimpArgs false

structure CS where
  ps : List Int
  cap : Int
  cl : Bool
  ss : List (Int × Int)
  gs : List (Int × Int)

abbrev encP (n : Int) : List AVal := [.int .u64 n]
abbrev encW (p : Int × Int) : List AVal := [.int .i64 p.1, .int .u64 p.2]

structure ChanIn (h : AHeap) (c : Nat) (s : CS) (pv sv gv : AVal) (Fp Fs Fg : List Nat) : Prop where
  obj : h.get c = .cells 0 false [pv, .int .i64 s.cap, .bool s.cl, sv, gv]
  lt : c < h.n
  hp : SlOf h 1 encP pv s.ps Fp
  hs : SlOf h 2 encW sv s.ss Fs
  hg : SlOf h 2 encW gv s.gs Fg
  nd : (c :: (Fp ++ Fs ++ Fg)).Nodup

def ChanAt (h : AHeap) (c : Nat) (s : CS) (F : List Nat) : Prop := ∃ pv sv gv Fp Fs Fg, ChanIn h c s pv sv gv Fp Fs Fg ∧ F = c :: (Fp ++ Fs ++ Fg)

theorem _root_.Go.AM.SlOf.nd {h : AHeap} {esz : Nat} {α : Type} {enc : α → List AVal} {v : AVal} {l : List α} {F : List Nat} (s : SlOf h esz enc v l F) : F.Nodup := by
  rcases s with ⟨_, _, rfl⟩ | ⟨_, _, _, _, _, _, _, _, _, rfl⟩ <;> simp

theorem ChanIn.all {h : AHeap} {c : Nat} {s : CS} {pv sv gv : AVal} {Fp Fs Fg : List Nat} (H : ChanIn h c s pv sv gv Fp Fs Fg) : ∀ j, j ∈ c :: (Fp ++ Fs ++ Fg) → j < h.n := by
  intro j hj; simp only [List.mem_cons, List.mem_append] at hj
  rcases hj with rfl | (hj | hj) | hj
  · exact H.lt
  · exact H.hp.lt j hj
  · exact H.hs.lt j hj
  · exact H.hg.lt j hj

/-- One part is another one behind it. -/
theorem ChanIn.upd {h h' : AHeap} {c : Nat} {s : CS} {pv sv gv : AVal} {Fp Fs Fg : List Nat} (H : ChanIn h c s pv sv gv Fp Fs Fg) {s' : CS} {pv' sv' gv' : AVal} {Fp' Fs' Fg' F F' : List Nat}
    (f : HFrame h h' F F') (hF : ∀ j, j ∈ F → j ∈ Fp ++ Fs ++ Fg) (hF' : ∀ j, j ∈ Fp' ++ Fs' ++ Fg' → j ∈ F' ∨ j ∈ Fp ++ Fs ++ Fg) (nd : (Fp' ++ Fs' ++ Fg').Nodup)
    (p : SlOf h' 1 encP pv' s'.ps Fp') (q : SlOf h' 2 encW sv' s'.ss Fs') (r : SlOf h' 2 encW gv' s'.gs Fg') :
    ChanIn (h'.set c (.cells 0 false [pv', .int .i64 s'.cap, .bool s'.cl, sv', gv'])) c s' pv' sv' gv' Fp' Fs' Fg' ∧
    HFrame h (h'.set c (.cells 0 false [pv', .int .i64 s'.cap, .bool s'.cl, sv', gv'])) (c :: (Fp ++ Fs ++ Fg)) (c :: (Fp' ++ Fs' ++ Fg')) := by
  have hc : c ∉ Fp ++ Fs ++ Fg := (List.nodup_cons.1 H.nd).1
  have hlt : c < h'.n := Nat.lt_of_lt_of_le H.lt f.n
  have hc' : c ∉ Fp' ++ Fs' ++ Fg' := by
    intro hm
    rcases hF' c hm with e | e
    · rcases f.new c e with e | e
      · exact hc (hF c e)
      · exact absurd H.lt (by omega)
    · exact hc e
  have keep : ∀ j, j ∈ Fp' ++ Fs' ++ Fg' → (h'.set c (.cells 0 false [pv', .int .i64 s'.cap, .bool s'.cl, sv', gv'])).get j = h'.get j :=
    fun j hj => AHeap.get_set_ne _ _ (by intro e; subst e; exact hc' hj)
  have hn : h'.n ≤ (h'.set c (.cells 0 false [pv', .int .i64 s'.cap, .bool s'.cl, sv', gv'])).n := by simp
  refine ⟨⟨AHeap.get_set_same _ _ _, by simpa using hlt, p.frame hn fun j hj => keep j (by simp [hj]), q.frame hn fun j hj => keep j (by simp [hj]), r.frame hn fun j hj => keep j (by simp [hj]), List.nodup_cons.2 ⟨hc', nd⟩⟩, ?_⟩
  have f1 : HFrame h h' (c :: (Fp ++ Fs ++ Fg)) (c :: (Fp' ++ Fs' ++ Fg')) := f.wide (fun j hj => List.mem_cons_of_mem _ (hF j hj)) (fun j hj => by
    rcases List.mem_cons.1 hj with e | e
    · exact .inr (by rw [e]; exact List.mem_cons_self)
    · rcases hF' j e with e | e
      · exact .inl e
      · exact .inr (List.mem_cons_of_mem _ e)) H.all
  exact f1.trans (HFrame.set h' c _ List.mem_cons_self f1.lt)

theorem nd_mid {A B C D : List Nat} {n : Nat} (nd : (A ++ B ++ C).Nodup) (hD : D.Nodup) (hn : ∀ j, j ∈ D → j ∈ B ∨ n ≤ j) (hl : ∀ j, j ∈ A ++ B ++ C → j < n) : (A ++ D ++ C).Nodup := by
  simp only [List.nodup_append, List.mem_append, ne_eq] at nd ⊢
  obtain ⟨⟨a1, a2, a3⟩, a4, a5⟩ := nd
  refine ⟨⟨a1, hD, fun a ha b hb e => ?_⟩, a4, fun a ha b hb e => ?_⟩
  · subst e
    rcases hn a hb with q | q
    · exact a3 a ha a q rfl
    · have := hl a (by simp [ha]); omega
  · subst e
    rcases ha with ha | ha
    · exact a5 a (.inl ha) a hb rfl
    · rcases hn a ha with q | q
      · exact a5 a (.inr q) a hb rfl
      · have := hl a (by simp [hb]); omega

theorem ChanIn.setP {h h' : AHeap} {c : Nat} {s : CS} {pv sv gv v' : AVal} {Fp Fs Fg F' : List Nat} {l' : List Int} (H : ChanIn h c s pv sv gv Fp Fs Fg) (f : HFrame h h' Fp F') (q : SlOf h' 1 encP v' l' F') :
    ChanIn (h'.set c (.cells 0 false [v', .int .i64 s.cap, .bool s.cl, sv, gv])) c { s with ps := l' } v' sv gv F' Fs Fg ∧ HFrame h (h'.set c (.cells 0 false [v', .int .i64 s.cap, .bool s.cl, sv, gv])) (c :: (Fp ++ Fs ++ Fg)) (c :: (F' ++ Fs ++ Fg)) := by
  have nd := (List.nodup_cons.1 H.nd).2
  have hl : ∀ j, j ∈ Fp ++ Fs ++ Fg → j < h.n := fun j hj => H.all j (List.mem_cons_of_mem _ hj)
  have nd2 := nd_mid (A := []) (B := Fp) (C := Fs ++ Fg) (D := F') (n := h.n) (by simpa using nd) q.nd f.new (by simpa using hl)
  have out : ∀ j, j ∈ Fs ++ Fg → j ∉ Fp := by
    intro j hj hp; simp only [List.append_assoc, List.nodup_append, ne_eq] at nd; exact nd.2.2 j hp j (by simpa using hj) rfl
  exact ChanIn.upd (s' := { s with ps := l' }) H f (fun j hj => by simp [hj]) (fun j hj => by simp only [List.mem_append] at hj ⊢; rcases hj with (hj | hj) | hj <;> simp [hj]) (by simpa using nd2) q
    (H.hs.frame f.n fun j hj => f.get j (H.hs.lt j hj) (out j (by simp [hj]))) (H.hg.frame f.n fun j hj => f.get j (H.hg.lt j hj) (out j (by simp [hj])))
theorem ChanIn.setS {h h' : AHeap} {c : Nat} {s : CS} {pv sv gv v' : AVal} {Fp Fs Fg F' : List Nat} {l' : List (Int × Int)} (H : ChanIn h c s pv sv gv Fp Fs Fg) (f : HFrame h h' Fs F') (q : SlOf h' 2 encW v' l' F') :
    ChanIn (h'.set c (.cells 0 false [pv, .int .i64 s.cap, .bool s.cl, v', gv])) c { s with ss := l' } pv v' gv Fp F' Fg ∧ HFrame h (h'.set c (.cells 0 false [pv, .int .i64 s.cap, .bool s.cl, v', gv])) (c :: (Fp ++ Fs ++ Fg)) (c :: (Fp ++ F' ++ Fg)) := by
  have nd := (List.nodup_cons.1 H.nd).2
  have hl : ∀ j, j ∈ Fp ++ Fs ++ Fg → j < h.n := fun j hj => H.all j (List.mem_cons_of_mem _ hj)
  have nd2 := nd_mid (A := Fp) (B := Fs) (C := Fg) (D := F') (n := h.n) nd q.nd f.new hl
  have nd' := nd
  simp only [List.nodup_append, List.mem_append, ne_eq] at nd'
  obtain ⟨⟨a1, a2, a3⟩, a4, a5⟩ := nd'
  exact ChanIn.upd (s' := { s with ss := l' }) H f (fun j hj => by simp [hj]) (fun j hj => by simp only [List.mem_append] at hj ⊢; rcases hj with (hj | hj) | hj <;> simp [hj]) nd2
    (H.hp.frame f.n fun j hj => f.get j (H.hp.lt j hj) fun hs => a3 j hj j hs rfl) q (H.hg.frame f.n fun j hj => f.get j (H.hg.lt j hj) fun hs => a5 j (.inr hs) j hj rfl)
theorem ChanIn.setG {h h' : AHeap} {c : Nat} {s : CS} {pv sv gv v' : AVal} {Fp Fs Fg F' : List Nat} {l' : List (Int × Int)} (H : ChanIn h c s pv sv gv Fp Fs Fg) (f : HFrame h h' Fg F') (q : SlOf h' 2 encW v' l' F') :
    ChanIn (h'.set c (.cells 0 false [pv, .int .i64 s.cap, .bool s.cl, sv, v'])) c { s with gs := l' } pv sv v' Fp Fs F' ∧ HFrame h (h'.set c (.cells 0 false [pv, .int .i64 s.cap, .bool s.cl, sv, v'])) (c :: (Fp ++ Fs ++ Fg)) (c :: (Fp ++ Fs ++ F')) := by
  have nd := (List.nodup_cons.1 H.nd).2
  have hl : ∀ j, j ∈ Fp ++ Fs ++ Fg → j < h.n := fun j hj => H.all j (List.mem_cons_of_mem _ hj)
  have nd2 := nd_mid (A := Fp ++ Fs) (B := Fg) (C := []) (D := F') (n := h.n) (by simpa using nd) q.nd f.new (by simpa using hl)
  have nd' := nd
  simp only [List.nodup_append, List.mem_append, ne_eq] at nd'
  obtain ⟨⟨a1, a2, a3⟩, a4, a5⟩ := nd'
  exact ChanIn.upd (s' := { s with gs := l' }) H f (fun j hj => by simp [hj]) (fun j hj => by simp only [List.mem_append] at hj ⊢; rcases hj with (hj | hj) | hj <;> simp [hj]) (by simpa using nd2)
    (H.hp.frame f.n fun j hj => f.get j (H.hp.lt j hj) fun hs => a5 j (.inl hj) j hs rfl) (H.hs.frame f.n fun j hj => f.get j (H.hs.lt j hj) fun hs => a5 j (.inr hj) j hs rfl) q

theorem queue {h : AHeap} {c : Nat} {s : CS} {F : List Nat} (H : ChanAt h c s F) (id v : Int) (b : Bool) (hr : s.ss.length < 1073741824 ∧ s.gs.length < 1073741824) :
    CallP AP 16 [.ptr c 0 0, .int .i64 id, .int .u64 v, .bool b] h fun r h' => ∃ F', HFrame h h' F F' ∧ ChanAt h' c (if b then { s with ss := s.ss ++ [(id, v)] } else { s with gs := s.gs ++ [(id, 0)] }) F' := by
  obtain ⟨pv, sv, gv, Fp, Fs, Fg, H, rfl⟩ := H
  have ho := H.obj
  have hlt := H.lt
  have hc : c ∉ Fp ++ Fs ++ Fg := (List.nodup_cons.1 H.nd).1
  refine callP (rfl : Tr.get AP 16 = some A16) ?_
  generalize hQ : (fun (r : AVal) (h' : AHeap) => _) = Q
  cases b with
  | true =>
    simp -implicitDefEqProofs (disch := first | decide | assumption | omega | (simp -implicitDefEqProofs only [AHeap.n_push, AHeap.n_set, List.length_cons, List.length_nil]; done) | (simp -implicitDefEqProofs only [AHeap.n_push, AHeap.n_set, List.length_cons, List.length_nil]; omega) | fail) only [↓AM.R0, AM.R1, List.reverse_cons, List.reverse_nil, Bool.or_true, Bool.true_or, Bool.false_or, Bool.or_false, List.map_cons, List.map_nil, List.nil_append, List.append_nil, List.cons_append, List.getElem?_cons_zero, List.getElem?_cons_succ, AHeap.n_push, AHeap.n_set, AHeap.get_set_same, AHeap.get_push_same, AHeap.get_set_ne, AHeap.get_push_ne, List.length_cons, List.length_nil, List.take_succ_cons, List.take_zero, List.drop_succ_cons, List.drop_zero, List.drop_nil, List.take_nil, Nat.zero_add, Nat.add_zero, Nat.zero_mul, Nat.one_mul, Nat.mul_one, Nat.add_sub_cancel, Nat.sub_zero, Int.toNat_zero, Int.toNat_one, Int.toNat_natCast, Option.map_some, Option.bind_some, List.all_cons, List.all_nil, Bool.and_self, Bool.and_true, Bool.true_and, and_self, and_true, true_and, eq_self, if_true, Bool.not_true, Bool.not_false, Bool.false_eq_true, if_false, decide_true, decide_false, Nat.reduceAdd, Nat.reduceLeDiff, Nat.reduceEqDiff, ↓reduceIte, Int.reduceEq, Int.reduceLT, Int.reduceLE, ho]
    refine AM.opI_of (H.hs.app1 (fun _ => rfl) (fun _ => rfl) (by omega) (id, v) fun v' h' F' s' f => ?_)
    have ho' : h'.get c = _ := (f.get c hlt fun e => hc (by simp [e])).trans ho
    have hlt' : c < h'.n := Nat.lt_of_lt_of_le hlt f.n
    simp -implicitDefEqProofs (disch := first | decide | assumption | omega | (simp -implicitDefEqProofs only [AHeap.n_push, AHeap.n_set, List.length_cons, List.length_nil]; done) | (simp -implicitDefEqProofs only [AHeap.n_push, AHeap.n_set, List.length_cons, List.length_nil]; omega) | fail) only [↓AM.R0, AM.R1, List.reverse_cons, List.reverse_nil, Bool.or_true, Bool.true_or, Bool.false_or, Bool.or_false, List.map_cons, List.map_nil, List.nil_append, List.append_nil, List.cons_append, List.getElem?_cons_zero, List.getElem?_cons_succ, AHeap.n_push, AHeap.n_set, AHeap.get_set_same, AHeap.get_push_same, AHeap.get_set_ne, AHeap.get_push_ne, List.length_cons, List.length_nil, List.take_succ_cons, List.take_zero, List.drop_succ_cons, List.drop_zero, List.drop_nil, List.take_nil, Nat.zero_add, Nat.add_zero, Nat.zero_mul, Nat.one_mul, Nat.mul_one, Nat.add_sub_cancel, Nat.sub_zero, Int.toNat_zero, Int.toNat_one, Int.toNat_natCast, Option.map_some, Option.bind_some, List.all_cons, List.all_nil, Bool.and_self, Bool.and_true, Bool.true_and, and_self, and_true, true_and, eq_self, if_true, Bool.not_true, Bool.not_false, Bool.false_eq_true, if_false, decide_true, decide_false, Nat.reduceAdd, Nat.reduceLeDiff, Nat.reduceEqDiff, ↓reduceIte, Int.reduceEq, Int.reduceLT, Int.reduceLE, ho']
    have key := H.setS f s'
    rcases s' with ⟨rfl, _, _⟩ | ⟨_, _, _, _, rfl, _⟩ <;> simp -implicitDefEqProofs (disch := first | decide | assumption | omega | (simp -implicitDefEqProofs only [AHeap.n_push, AHeap.n_set, List.length_cons, List.length_nil]; done) | (simp -implicitDefEqProofs only [AHeap.n_push, AHeap.n_set, List.length_cons, List.length_nil]; omega) | fail) only [↓AM.R0, AM.R1, List.reverse_cons, List.reverse_nil, Bool.or_true, Bool.true_or, Bool.false_or, Bool.or_false, List.map_cons, List.map_nil, List.nil_append, List.append_nil, List.cons_append, List.getElem?_cons_zero, List.getElem?_cons_succ, AHeap.n_push, AHeap.n_set, AHeap.get_set_same, AHeap.get_push_same, AHeap.get_set_ne, AHeap.get_push_ne, List.length_cons, List.length_nil, List.take_succ_cons, List.take_zero, List.drop_succ_cons, List.drop_zero, List.drop_nil, List.take_nil, Nat.zero_add, Nat.add_zero, Nat.zero_mul, Nat.one_mul, Nat.mul_one, Nat.add_sub_cancel, Nat.sub_zero, Int.toNat_zero, Int.toNat_one, Int.toNat_natCast, Option.map_some, Option.bind_some, List.all_cons, List.all_nil, Bool.and_self, Bool.and_true, Bool.true_and, and_self, and_true, true_and, eq_self, if_true, Bool.not_true, Bool.not_false, Bool.false_eq_true, if_false, decide_true, decide_false, Nat.reduceAdd, Nat.reduceLeDiff, Nat.reduceEqDiff, ↓reduceIte, Int.reduceEq, Int.reduceLT, Int.reduceLE, ho'] <;> subst hQ <;> exact ⟨_, key.2, _, _, _, _, _, _, key.1, rfl⟩
  | false =>
    simp -implicitDefEqProofs (disch := first | decide | assumption | omega | (simp -implicitDefEqProofs only [AHeap.n_push, AHeap.n_set, List.length_cons, List.length_nil]; done) | (simp -implicitDefEqProofs only [AHeap.n_push, AHeap.n_set, List.length_cons, List.length_nil]; omega) | fail) only [↓AM.R0, AM.R1, List.reverse_cons, List.reverse_nil, Bool.or_true, Bool.true_or, Bool.false_or, Bool.or_false, List.map_cons, List.map_nil, List.nil_append, List.append_nil, List.cons_append, List.getElem?_cons_zero, List.getElem?_cons_succ, AHeap.n_push, AHeap.n_set, AHeap.get_set_same, AHeap.get_push_same, AHeap.get_set_ne, AHeap.get_push_ne, List.length_cons, List.length_nil, List.take_succ_cons, List.take_zero, List.drop_succ_cons, List.drop_zero, List.drop_nil, List.take_nil, Nat.zero_add, Nat.add_zero, Nat.zero_mul, Nat.one_mul, Nat.mul_one, Nat.add_sub_cancel, Nat.sub_zero, Int.toNat_zero, Int.toNat_one, Int.toNat_natCast, Option.map_some, Option.bind_some, List.all_cons, List.all_nil, Bool.and_self, Bool.and_true, Bool.true_and, and_self, and_true, true_and, eq_self, if_true, Bool.not_true, Bool.not_false, Bool.false_eq_true, if_false, decide_true, decide_false, Nat.reduceAdd, Nat.reduceLeDiff, Nat.reduceEqDiff, ↓reduceIte, Int.reduceEq, Int.reduceLT, Int.reduceLE, ho]
    refine AM.opI_of (H.hg.app1 (fun _ => rfl) (fun _ => rfl) (by omega) (id, 0) fun v' h' F' s' f => ?_)
    have ho' : h'.get c = _ := (f.get c hlt fun e => hc (by simp [e])).trans ho
    have hlt' : c < h'.n := Nat.lt_of_lt_of_le hlt f.n
    simp -implicitDefEqProofs (disch := first | decide | assumption | omega | (simp -implicitDefEqProofs only [AHeap.n_push, AHeap.n_set, List.length_cons, List.length_nil]; done) | (simp -implicitDefEqProofs only [AHeap.n_push, AHeap.n_set, List.length_cons, List.length_nil]; omega) | fail) only [↓AM.R0, AM.R1, List.reverse_cons, List.reverse_nil, Bool.or_true, Bool.true_or, Bool.false_or, Bool.or_false, List.map_cons, List.map_nil, List.nil_append, List.append_nil, List.cons_append, List.getElem?_cons_zero, List.getElem?_cons_succ, AHeap.n_push, AHeap.n_set, AHeap.get_set_same, AHeap.get_push_same, AHeap.get_set_ne, AHeap.get_push_ne, List.length_cons, List.length_nil, List.take_succ_cons, List.take_zero, List.drop_succ_cons, List.drop_zero, List.drop_nil, List.take_nil, Nat.zero_add, Nat.add_zero, Nat.zero_mul, Nat.one_mul, Nat.mul_one, Nat.add_sub_cancel, Nat.sub_zero, Int.toNat_zero, Int.toNat_one, Int.toNat_natCast, Option.map_some, Option.bind_some, List.all_cons, List.all_nil, Bool.and_self, Bool.and_true, Bool.true_and, and_self, and_true, true_and, eq_self, if_true, Bool.not_true, Bool.not_false, Bool.false_eq_true, if_false, decide_true, decide_false, Nat.reduceAdd, Nat.reduceLeDiff, Nat.reduceEqDiff, ↓reduceIte, Int.reduceEq, Int.reduceLT, Int.reduceLE, ho']
    have key := H.setG f s'
    rcases s' with ⟨rfl, _, _⟩ | ⟨_, _, _, _, rfl, _⟩ <;> simp -implicitDefEqProofs (disch := first | decide | assumption | omega | (simp -implicitDefEqProofs only [AHeap.n_push, AHeap.n_set, List.length_cons, List.length_nil]; done) | (simp -implicitDefEqProofs only [AHeap.n_push, AHeap.n_set, List.length_cons, List.length_nil]; omega) | fail) only [↓AM.R0, AM.R1, List.reverse_cons, List.reverse_nil, Bool.or_true, Bool.true_or, Bool.false_or, Bool.or_false, List.map_cons, List.map_nil, List.nil_append, List.append_nil, List.cons_append, List.getElem?_cons_zero, List.getElem?_cons_succ, AHeap.n_push, AHeap.n_set, AHeap.get_set_same, AHeap.get_push_same, AHeap.get_set_ne, AHeap.get_push_ne, List.length_cons, List.length_nil, List.take_succ_cons, List.take_zero, List.drop_succ_cons, List.drop_zero, List.drop_nil, List.take_nil, Nat.zero_add, Nat.add_zero, Nat.zero_mul, Nat.one_mul, Nat.mul_one, Nat.add_sub_cancel, Nat.sub_zero, Int.toNat_zero, Int.toNat_one, Int.toNat_natCast, Option.map_some, Option.bind_some, List.all_cons, List.all_nil, Bool.and_self, Bool.and_true, Bool.true_and, and_self, and_true, true_and, eq_self, if_true, Bool.not_true, Bool.not_false, Bool.false_eq_true, if_false, decide_true, decide_false, Nat.reduceAdd, Nat.reduceLeDiff, Nat.reduceEqDiff, ↓reduceIte, Int.reduceEq, Int.reduceLT, Int.reduceLE, ho'] <;> subst hQ <;> exact ⟨_, key.2, _, _, _, _, _, _, key.1, rfl⟩
end Go.Proofs.Ytedomhceacongaa.Ch
