/-
  What the functions of this seat do, on the machine: lemmas for the laws.
-/
import Derived.Test.YtfagngiceofoeaaAmCK
namespace Go.Proofs.Ytfagngiceofoeaa.Cd
open Go Go.AM Go.Proofs.Ytfagngiceofoeaa.AmGC
attribute [local irreducible] AM.wp AM.wpIs AM.wpTr AM.opI AM.gI AM.cI AM.trI AM.callI AM.fnI AM.trG AM.trOp AM.trCall AM.seqC AM.loopI
set_option maxRecDepth 100000
set_option linter.unusedVariables false
set_option linter.unusedSimpArgs false

abbrev encB (n : Int) : List AVal := [.int .u8 n]

/-- A writer: its bytes, and the first fault. -/
def WAt (h : AHeap) (w : Nat) (out : List Int) (e : Int) (F : List Nat) : Prop :=
  ∃ ov Fo, h.get w = .cells 0 false [ov, .int .i64 e] ∧ w < h.n ∧ SlOf h 1 encB ov out Fo ∧ w ∉ Fo ∧ F = w :: Fo

theorem WAt.lt {h : AHeap} {w : Nat} {out : List Int} {e : Int} {F : List Nat} (H : WAt h w out e F) : ∀ j, j ∈ F → j < h.n := by
  obtain ⟨ov, Fo, _, h1, h2, _, rfl⟩ := H
  intro j hj
  rcases List.mem_cons.1 hj with e | e
  · rw [e]; exact h1
  · exact h2.lt j e
theorem WAt.frame {h h' : AHeap} {w : Nat} {out : List Int} {e : Int} {F : List Nat} (H : WAt h w out e F) (hn : h.n ≤ h'.n) (k : ∀ j, j ∈ F → h'.get j = h.get j) : WAt h' w out e F := by
  obtain ⟨ov, Fo, h0, h1, h2, h3, rfl⟩ := H
  exact ⟨ov, Fo, (k w List.mem_cons_self).trans h0, Nat.lt_of_lt_of_le h1 hn, h2.frame hn fun j hj => k j (List.mem_cons_of_mem _ hj), h3, rfl⟩

theorem fail {h : AHeap} {w : Nat} {out : List Int} {e : Int} {F : List Nat} (H : WAt h w out e F) (e2 : Int) :
    CallP AP 36 [.ptr w 0 0, .int .i64 e2] h fun r h' => HFrame h h' F F ∧ WAt h' w out (if e = 0 then e2 else e) F := by
  have hl := H.lt
  refine callP (rfl : Tr.get AP 36 = some A36) ?_
  generalize hQ : (fun (r : AVal) (h' : AHeap) => _) = Q
  obtain ⟨ov, Fo, ho, hlt, hs, hw, rfl⟩ := H
  simp -implicitDefEqProofs (disch := first | decide | assumption | omega | (simp -implicitDefEqProofs only [AM.RN]; first | done | omega) | fail) only [↓AM.R0, AM.R1, AM.R2, Nat.reduceAdd, Nat.reduceLeDiff, Nat.reduceEqDiff, Int.reduceToNat, Nat.reduceLT, ↓reduceIte, Int.reduceEq, Int.reduceLT, Int.reduceLE, ho]
  refine AM.cI_bool (fun hb => ?_) (fun hb => ?_)
  · simp -implicitDefEqProofs (disch := first | decide | assumption | omega | (simp -implicitDefEqProofs only [AM.RN]; first | done | omega) | fail) only [↓AM.R0, AM.R1, AM.R2, Nat.reduceAdd, Nat.reduceLeDiff, Nat.reduceEqDiff, Int.reduceToNat, Nat.reduceLT, ↓reduceIte, Int.reduceEq, Int.reduceLT, Int.reduceLE, ho]
    subst hQ
    simp only [decide_eq_true_eq] at hb
    rw [if_pos hb]
    exact ⟨HFrame.set h w _ List.mem_cons_self hl, ov, Fo, AHeap.get_set_same _ _ _, by simpa using hlt, hs.set hw _, hw, rfl⟩
  · simp -implicitDefEqProofs (disch := first | decide | assumption | omega | (simp -implicitDefEqProofs only [AM.RN]; first | done | omega) | fail) only [↓AM.R0, AM.R1, AM.R2, Nat.reduceAdd, Nat.reduceLeDiff, Nat.reduceEqDiff, Int.reduceToNat, Nat.reduceLT, ↓reduceIte, Int.reduceEq, Int.reduceLT, Int.reduceLE, ho]
    subst hQ
    simp only [decide_eq_false_iff_not] at hb
    rw [if_neg hb]
    exact ⟨HFrame.refl hl, ov, Fo, ho, hlt, hs, hw, rfl⟩

/-- A number, seven bits a byte, the last one below 128. -/
def wordB (n : Nat) : List Int := if 127 < n then ((n % 256 ||| 128 : Nat) : Int) :: wordB (n / 128) else [(n : Int)]
termination_by n
decreasing_by omega

/-- The bytes grow by one. -/
theorem WAt.put {h h' : AHeap} {w : Nat} {out l' : List Int} {e : Int} {ov ov' : AVal} {Fo Fo' : List Nat} (ho : h.get w = .cells 0 false [ov, .int .i64 e]) (hlt : w < h.n) (hw : w ∉ Fo) (hs : SlOf h 1 encB ov out Fo)
    (f : HFrame h h' Fo Fo') (q : SlOf h' 1 encB ov' l' Fo') : HFrame h (h'.set w (.cells 0 false [ov', .int .i64 e])) (w :: Fo) (w :: Fo') ∧ WAt (h'.set w (.cells 0 false [ov', .int .i64 e])) w l' e (w :: Fo') := by
  have hw' : w ∉ Fo' := f.out hw hlt
  have hl : ∀ j, j ∈ w :: Fo → j < h.n := fun j hj => by
    rcases List.mem_cons.1 hj with e | e
    · rw [e]; exact hlt
    · exact hs.lt j e
  have f1 : HFrame h h' (w :: Fo) (w :: Fo') := f.wide (fun j hj => List.mem_cons_of_mem _ hj) (fun j hj => by
    rcases List.mem_cons.1 hj with e | e
    · exact .inr (by rw [e]; exact List.mem_cons_self)
    · exact .inl e) hl
  exact ⟨f1.trans (HFrame.set h' w _ List.mem_cons_self f1.lt), ov', Fo', AHeap.get_set_same _ _ _, Nat.lt_of_lt_of_le hlt f.n, q.set hw' _, hw', rfl⟩

theorem word {h : AHeap} {w : Nat} {out : List Int} {e : Int} {F : List Nat} (H : WAt h w out e F) (n : Nat) (hn : n ≤ 18446744073709551615) (hr : out.length < 1073741824) :
    CallP AP 37 [.ptr w 0 0, .int .u64 n] h fun r h' => ∃ F', HFrame h h' F F' ∧ WAt h' w (out ++ wordB n) e F' := by
  have hl := H.lt
  refine callP (rfl : Tr.get AP 37 = some A37) ?_
  generalize hQ : (fun (r : AVal) (h' : AHeap) => _) = Q
  simp -implicitDefEqProofs (disch := first | decide | assumption | omega | (simp -implicitDefEqProofs only [AM.RN]; first | done | omega) | fail) only [↓AM.R0, AM.R1, AM.R2, Nat.reduceAdd, Nat.reduceLeDiff, Nat.reduceEqDiff, Int.reduceToNat, Nat.reduceLT, ↓reduceIte, Int.reduceEq, Int.reduceLT, Int.reduceLE]
  refine AM.loopI_of (fun k en h' => ∃ (m d : Nat) (o : List Int) (F' : List Nat), m ≤ n ∧ k = m ∧ en.val 0 = .ptr w 0 0 ∧ en.val 1 = .int .u64 m ∧ out ++ wordB n = o ++ wordB m ∧ o.length = out.length + d ∧ d ≤ 10 ∧ m < 128 ^ (10 - d) ∧ HFrame h h' F F' ∧ WAt h' w o e F') n ?_ ?_
  · refine ⟨n, 0, out, F, Nat.le_refl _, rfl, ?_, ?_, rfl, rfl, by omega, ?_, HFrame.refl hl, H⟩
    · simp -implicitDefEqProofs (disch := first | decide | assumption | omega | (simp -implicitDefEqProofs only [AM.RN]; first | done | omega) | fail) only [↓AM.R0, AM.R1, AM.R2, Nat.reduceAdd, Nat.reduceLeDiff, Nat.reduceEqDiff, Int.reduceToNat, Nat.reduceLT, ↓reduceIte, Int.reduceEq, Int.reduceLT, Int.reduceLE]
    · simp -implicitDefEqProofs (disch := first | decide | assumption | omega | (simp -implicitDefEqProofs only [AM.RN]; first | done | omega) | fail) only [↓AM.R0, AM.R1, AM.R2, Nat.reduceAdd, Nat.reduceLeDiff, Nat.reduceEqDiff, Int.reduceToNat, Nat.reduceLT, ↓reduceIte, Int.reduceEq, Int.reduceLT, Int.reduceLE]
    · have : (128 : Nat) ^ (10 - 0) = 1180591620717411303424 := by decide
      omega
  · rintro k en h' ⟨m, d, o, F', hm, hk, e0, e1, heq, hod, hd, hpow, f, HW⟩
    obtain ⟨ov, Fo, ho, hlt, hs, hw, rfl⟩ := HW
    simp -implicitDefEqProofs (disch := first | decide | assumption | omega | (simp -implicitDefEqProofs only [AM.RN]; first | done | omega) | fail) only [↓AM.R0, AM.R1, AM.R2, Nat.reduceAdd, Nat.reduceLeDiff, Nat.reduceEqDiff, Int.reduceToNat, Nat.reduceLT, ↓reduceIte, Int.reduceEq, Int.reduceLT, Int.reduceLE, e0, e1]
    refine AM.cI_bool (fun hb => ?_) (fun hb => ?_)
    · simp only [decide_eq_true_eq] at hb
      have hm127 : 127 < m := by omega
      have hwr : IntKind.u8.wrap (m : Int) = ((m % 256 : Nat) : Int) := by rw [wrap_eq]; simp only; omega
      have k8 : kMax .u8 = 255 := rfl
      have o1 : ((m % 256 : Nat) : Int) ≤ (kMax .u8 : Nat) := by rw [k8]; omega
      have o2 : (128 : Int) ≤ (kMax .u8 : Nat) := by rw [k8]; omega
      have o3 : (7 : Int) ≤ (IntKind.u64.bits : Nat) := by simp [IntKind.bits]
      have hmod : (m : Int).toNat >>> (7 : Int).toNat = m / 128 := by
        show m >>> 7 = _
        rw [Nat.shiftRight_eq_div_pow]
      have hdl : ∃ q, 10 - d = q + 1 := ⟨10 - d - 1, by
        have : 10 - d ≠ 0 := by intro h0; rw [h0] at hpow; simp at hpow; omega
        omega⟩
      obtain ⟨q, hq⟩ := hdl
      simp -implicitDefEqProofs (disch := first | decide | assumption | omega | (simp -implicitDefEqProofs only [AM.RN]; first | done | omega) | fail) only [↓AM.R0, AM.R1, AM.R2, Nat.reduceAdd, Nat.reduceLeDiff, Nat.reduceEqDiff, Int.reduceToNat, Nat.reduceLT, ↓reduceIte, Int.reduceEq, Int.reduceLT, Int.reduceLE, e0, e1, ho, hwr]
      refine AM.opI_of (hs.app1 (fun _ => rfl) (fun _ => rfl) (by omega) ((m % 256 ||| 128 : Nat) : Int) fun v' h'' F'' s'' f'' => ?_)
      have ho' : h''.get w = _ := (f''.get w hlt hw).trans ho
      have hlt' : w < h''.n := Nat.lt_of_lt_of_le hlt f''.n
      obtain ⟨d1, d2⟩ := s''.rd.cells
      have key := WAt.put ho hlt hw hs f'' s''
      simp -implicitDefEqProofs (disch := first | decide | assumption | omega | (simp -implicitDefEqProofs only [AM.RN]; first | done | omega) | fail) only [↓AM.R0, AM.R1, AM.R2, Nat.reduceAdd, Nat.reduceLeDiff, Nat.reduceEqDiff, Int.reduceToNat, Nat.reduceLT, ↓reduceIte, Int.reduceEq, Int.reduceLT, Int.reduceLE, e0, e1, ho', d1, d2]
      refine ⟨m / 128, by omega, m / 128, d + 1, o ++ [((m % 256 ||| 128 : Nat) : Int)], w :: F'', by omega, rfl, ?_, ?_, by simp [hod]; omega, by omega, ?_, f.trans key.1, key.2⟩
      · show AVal.int .u64 (((m >>> 7 : Nat) : Nat) : Int) = _
        rw [Nat.shiftRight_eq_div_pow]
      · rw [heq, wordB, if_pos hm127, List.append_assoc]; rfl
      · rw [show 10 - (d + 1) = q by omega]
        rw [hq, Nat.pow_succ] at hpow
        exact Nat.div_lt_of_lt_mul (by rw [Nat.mul_comm]; exact hpow)
    · simp only [decide_eq_false_iff_not] at hb
      have hwr : IntKind.u8.wrap (m : Int) = (m : Int) := by rw [wrap_eq]; simp only; omega
      simp -implicitDefEqProofs (disch := first | decide | assumption | omega | (simp -implicitDefEqProofs only [AM.RN]; first | done | omega) | fail) only [↓AM.R0, AM.R1, AM.R2, Nat.reduceAdd, Nat.reduceLeDiff, Nat.reduceEqDiff, Int.reduceToNat, Nat.reduceLT, ↓reduceIte, Int.reduceEq, Int.reduceLT, Int.reduceLE, e0, e1, ho, hwr]
      refine AM.opI_of (hs.app1 (fun _ => rfl) (fun _ => rfl) (by omega) (m : Int) fun v' h'' F'' s'' f'' => ?_)
      have ho' : h''.get w = _ := (f''.get w hlt hw).trans ho
      have hlt' : w < h''.n := Nat.lt_of_lt_of_le hlt f''.n
      obtain ⟨d1, d2⟩ := s''.rd.cells
      have key := WAt.put ho hlt hw hs f'' s''
      simp -implicitDefEqProofs (disch := first | decide | assumption | omega | (simp -implicitDefEqProofs only [AM.RN]; first | done | omega) | fail) only [↓AM.R0, AM.R1, AM.R2, Nat.reduceAdd, Nat.reduceLeDiff, Nat.reduceEqDiff, Int.reduceToNat, Nat.reduceLT, ↓reduceIte, Int.reduceEq, Int.reduceLT, Int.reduceLE, e0, e1, ho', d1, d2]
      subst hQ
      rw [show out ++ wordB n = o ++ [(m : Int)] by rw [heq, wordB, if_neg (by omega)]]
      exact ⟨_, f.trans key.1, key.2⟩

/-- What a writer holds: the bytes, the first fault. -/
abbrev WS := List Int × Int
def wfail (s : WS) (c : Int) : WS := (s.1, if s.2 = 0 then c else s.2)
def wword (s : WS) (n : Nat) : WS := (s.1 ++ wordB n, s.2)
def wnum (s : WS) (n : Int) : WS := if n < 0 ∨ 65535 < n then wfail s 1 else wword s n.toNat
def wcount (s : WS) (n limit : Int) : WS := wnum (if limit < n then wfail s 16 else s) (min n 65535)
def wkinds (s : WS) (l : List Int) (limit : Int) : WS := l.foldl wnum (wcount s l.length limit)

theorem wordB_len : ∀ (k n : Nat), n < 128 ^ (k + 1) → (wordB n).length ≤ k + 1
  | 0, n, h => by rw [wordB, if_neg (by omega)]; simp
  | k + 1, n, h => by
    rw [wordB]
    by_cases hn : 127 < n
    · rw [if_pos hn]
      have := wordB_len k (n / 128) (Nat.div_lt_of_lt_mul (by rw [Nat.mul_comm, ← Nat.pow_succ]; exact h))
      simp only [List.length_cons]; omega
    · rw [if_neg hn]; simp
theorem wnum_len (s : WS) (n : Int) : (wnum s n).1.length ≤ s.1.length + 3 := by
  unfold wnum
  split
  · simp [wfail]
  · rename_i h
    have := wordB_len 2 n.toNat (by show n.toNat < 2097152; omega)
    simp only [wword, List.length_append]; omega

theorem number {h : AHeap} {w : Nat} {s : WS} {F : List Nat} (H : WAt h w s.1 s.2 F) (n : Int) (hr : s.1.length < 1073741824) :
    CallP AP 20 [.ptr w 0 0, .int .i64 n] h fun r h' => ∃ F', HFrame h h' F F' ∧ WAt h' w (wnum s n).1 (wnum s n).2 F' := by
  refine callP (rfl : Tr.get AP 20 = some A20) ?_
  generalize hQ : (fun (r : AVal) (h' : AHeap) => _) = Q
  simp -implicitDefEqProofs (disch := first | decide | assumption | omega | (simp -implicitDefEqProofs only [AM.RN]; first | done | omega) | fail) only [↓AM.R0, AM.R1, AM.R2, Nat.reduceAdd, Nat.reduceLeDiff, Nat.reduceEqDiff, Int.reduceToNat, Nat.reduceLT, ↓reduceIte, Int.reduceEq, Int.reduceLT, Int.reduceLE]
  refine AM.gI_bool (fun hb => ?_) (fun hb => ?_)
  · simp -implicitDefEqProofs (disch := first | decide | assumption | omega | (simp -implicitDefEqProofs only [AM.RN]; first | done | omega) | fail) only [↓AM.R0, AM.R1, AM.R2, Nat.reduceAdd, Nat.reduceLeDiff, Nat.reduceEqDiff, Int.reduceToNat, Nat.reduceLT, ↓reduceIte, Int.reduceEq, Int.reduceLT, Int.reduceLE, hb]
    simp only [decide_eq_true_eq] at hb
    refine AM.callI_of (fail H 1) ?_
    rintro r h' ⟨f, q⟩
    simp -implicitDefEqProofs (disch := first | decide | assumption | omega | (simp -implicitDefEqProofs only [AM.RN]; first | done | omega) | fail) only [↓AM.R0, AM.R1, AM.R2, Nat.reduceAdd, Nat.reduceLeDiff, Nat.reduceEqDiff, Int.reduceToNat, Nat.reduceLT, ↓reduceIte, Int.reduceEq, Int.reduceLT, Int.reduceLE]
    subst hQ
    rw [show wnum s n = wfail s 1 by unfold wnum; rw [if_pos (.inl hb)]]
    exact ⟨F, f, q⟩
  · simp -implicitDefEqProofs (disch := first | decide | assumption | omega | (simp -implicitDefEqProofs only [AM.RN]; first | done | omega) | fail) only [↓AM.R0, AM.R1, AM.R2, Nat.reduceAdd, Nat.reduceLeDiff, Nat.reduceEqDiff, Int.reduceToNat, Nat.reduceLT, ↓reduceIte, Int.reduceEq, Int.reduceLT, Int.reduceLE, hb]
    simp only [decide_eq_false_iff_not] at hb
    refine AM.cI_bool (fun hc => ?_) (fun hc => ?_)
    · simp only [decide_eq_true_eq] at hc
      simp -implicitDefEqProofs (disch := first | decide | assumption | omega | (simp -implicitDefEqProofs only [AM.RN]; first | done | omega) | fail) only [↓AM.R0, AM.R1, AM.R2, Nat.reduceAdd, Nat.reduceLeDiff, Nat.reduceEqDiff, Int.reduceToNat, Nat.reduceLT, ↓reduceIte, Int.reduceEq, Int.reduceLT, Int.reduceLE]
      refine AM.callI_of (fail H 1) ?_
      rintro r h' ⟨f, q⟩
      simp -implicitDefEqProofs (disch := first | decide | assumption | omega | (simp -implicitDefEqProofs only [AM.RN]; first | done | omega) | fail) only [↓AM.R0, AM.R1, AM.R2, Nat.reduceAdd, Nat.reduceLeDiff, Nat.reduceEqDiff, Int.reduceToNat, Nat.reduceLT, ↓reduceIte, Int.reduceEq, Int.reduceLT, Int.reduceLE]
      subst hQ
      rw [show wnum s n = wfail s 1 by unfold wnum; rw [if_pos (.inr hc)]]
      exact ⟨F, f, q⟩
    · simp only [decide_eq_false_iff_not] at hc
      have hw : IntKind.u64.wrap n = ((n.toNat : Nat) : Int) := by rw [wrap_eq]; simp only; omega
      simp -implicitDefEqProofs (disch := first | decide | assumption | omega | (simp -implicitDefEqProofs only [AM.RN]; first | done | omega) | fail) only [↓AM.R0, AM.R1, AM.R2, Nat.reduceAdd, Nat.reduceLeDiff, Nat.reduceEqDiff, Int.reduceToNat, Nat.reduceLT, ↓reduceIte, Int.reduceEq, Int.reduceLT, Int.reduceLE, hw]
      refine AM.callI_of (word H n.toNat (by omega) hr) ?_
      rintro r h' ⟨F', f, q⟩
      simp -implicitDefEqProofs (disch := first | decide | assumption | omega | (simp -implicitDefEqProofs only [AM.RN]; first | done | omega) | fail) only [↓AM.R0, AM.R1, AM.R2, Nat.reduceAdd, Nat.reduceLeDiff, Nat.reduceEqDiff, Int.reduceToNat, Nat.reduceLT, ↓reduceIte, Int.reduceEq, Int.reduceLT, Int.reduceLE]
      subst hQ
      rw [show wnum s n = wword s n.toNat by unfold wnum; rw [if_neg (by omega)]]
      exact ⟨F', f, q⟩

theorem count {h : AHeap} {w : Nat} {s : WS} {F : List Nat} (H : WAt h w s.1 s.2 F) (n limit : Int) (hr : s.1.length < 1073741824) :
    CallP AP 19 [.ptr w 0 0, .int .i64 n, .int .i64 limit] h fun r h' => ∃ F', HFrame h h' F F' ∧ WAt h' w (wcount s n limit).1 (wcount s n limit).2 F' := by
  refine callP (rfl : Tr.get AP 19 = some A19) ?_
  generalize hQ : (fun (r : AVal) (h' : AHeap) => _) = Q
  simp -implicitDefEqProofs (disch := first | decide | assumption | omega | (simp -implicitDefEqProofs only [AM.RN]; first | done | omega) | fail) only [↓AM.R0, AM.R1, AM.R2, Nat.reduceAdd, Nat.reduceLeDiff, Nat.reduceEqDiff, Int.reduceToNat, Nat.reduceLT, ↓reduceIte, Int.reduceEq, Int.reduceLT, Int.reduceLE]
  refine AM.cI_bool (fun hb => ?_) (fun hb => ?_)
  · simp only [decide_eq_true_eq] at hb
    simp -implicitDefEqProofs (disch := first | decide | assumption | omega | (simp -implicitDefEqProofs only [AM.RN]; first | done | omega) | fail) only [↓AM.R0, AM.R1, AM.R2, Nat.reduceAdd, Nat.reduceLeDiff, Nat.reduceEqDiff, Int.reduceToNat, Nat.reduceLT, ↓reduceIte, Int.reduceEq, Int.reduceLT, Int.reduceLE]
    refine AM.callI_of (fail H 16) ?_
    rintro r h' ⟨f, q⟩
    simp -implicitDefEqProofs (disch := first | decide | assumption | omega | (simp -implicitDefEqProofs only [AM.RN]; first | done | omega) | fail) only [↓AM.R0, AM.R1, AM.R2, Nat.reduceAdd, Nat.reduceLeDiff, Nat.reduceEqDiff, Int.reduceToNat, Nat.reduceLT, ↓reduceIte, Int.reduceEq, Int.reduceLT, Int.reduceLE]
    refine AM.callI_of (number (s := wfail s 16) q (min n 65535) hr) ?_
    rintro r h2 ⟨F2, f2, q2⟩
    simp -implicitDefEqProofs (disch := first | decide | assumption | omega | (simp -implicitDefEqProofs only [AM.RN]; first | done | omega) | fail) only [↓AM.R0, AM.R1, AM.R2, Nat.reduceAdd, Nat.reduceLeDiff, Nat.reduceEqDiff, Int.reduceToNat, Nat.reduceLT, ↓reduceIte, Int.reduceEq, Int.reduceLT, Int.reduceLE]
    subst hQ
    rw [show wcount s n limit = wnum (wfail s 16) (min n 65535) by unfold wcount; rw [if_pos hb]]
    exact ⟨F2, f.trans f2, q2⟩
  · simp only [decide_eq_false_iff_not] at hb
    simp -implicitDefEqProofs (disch := first | decide | assumption | omega | (simp -implicitDefEqProofs only [AM.RN]; first | done | omega) | fail) only [↓AM.R0, AM.R1, AM.R2, Nat.reduceAdd, Nat.reduceLeDiff, Nat.reduceEqDiff, Int.reduceToNat, Nat.reduceLT, ↓reduceIte, Int.reduceEq, Int.reduceLT, Int.reduceLE]
    refine AM.callI_of (number H (min n 65535) hr) ?_
    rintro r h2 ⟨F2, f2, q2⟩
    simp -implicitDefEqProofs (disch := first | decide | assumption | omega | (simp -implicitDefEqProofs only [AM.RN]; first | done | omega) | fail) only [↓AM.R0, AM.R1, AM.R2, Nat.reduceAdd, Nat.reduceLeDiff, Nat.reduceEqDiff, Int.reduceToNat, Nat.reduceLT, ↓reduceIte, Int.reduceEq, Int.reduceLT, Int.reduceLE]
    subst hQ
    rw [show wcount s n limit = wnum s (min n 65535) by unfold wcount; rw [if_neg hb]]
    exact ⟨F2, f2, q2⟩

theorem flag (h : AHeap) (b : Bool) : CallP AP 21 [.bool b] h fun r h' => r = .int .i64 (if b then 1 else 0) ∧ h' = h := by
  refine callP (rfl : Tr.get AP 21 = some A21) ?_
  generalize hQ : (fun (r : AVal) (h' : AHeap) => _) = Q
  cases b
  all_goals
    simp -implicitDefEqProofs (disch := first | decide | assumption | omega | (simp -implicitDefEqProofs only [AM.RN]; first | done | omega) | fail) only [↓AM.R0, AM.R1, AM.R2, Nat.reduceAdd, Nat.reduceLeDiff, Nat.reduceEqDiff, Int.reduceToNat, Nat.reduceLT, ↓reduceIte, Int.reduceEq, Int.reduceLT, Int.reduceLE]
    subst hQ
    exact ⟨rfl, rfl⟩

theorem wcount_len (s : WS) (n limit : Int) : (wcount s n limit).1.length ≤ s.1.length + 3 := by
  unfold wcount
  by_cases hl : limit < n
  · rw [if_pos hl]
    exact wnum_len (wfail s 16) (min n 65535)
  · rw [if_neg hl]
    exact wnum_len s (min n 65535)
theorem fold_len (l : List Int) : ∀ s : WS, (l.foldl wnum s).1.length ≤ s.1.length + 3 * l.length := by
  induction l with
  | nil => simp
  | cons a l ih => intro s; have h1 := wnum_len s a; have h2 := ih (wnum s a); simp only [List.foldl_cons, List.length_cons]; omega

abbrev encK (n : Int) : List AVal := [.int .i64 n]
theorem kinds {h : AHeap} {w : Nat} {s : WS} {F : List Nat} (H : WAt h w s.1 s.2 F) {v : AVal} {l : List Int} (L : SlIn h 1 encK v l) (hd : ∀ (h' : AHeap), h.n ≤ h'.n → (∀ j, j < h.n → j ∉ F → h'.get j = h.get j) → SlIn h' 1 encK v l) (limit : Int) (hr : s.1.length + 3 * l.length + 3 < 1073741824) :
    CallP AP 22 [.ptr w 0 0, v, .int .i64 limit] h fun r h' => ∃ F', HFrame h h' F F' ∧ WAt h' w (wkinds s l limit).1 (wkinds s l limit).2 F' := by
  refine callP (rfl : Tr.get AP 22 = some A22) ?_
  generalize hQ : (fun (r : AVal) (h' : AHeap) => _) = Q
  have hl := L.len
  simp -implicitDefEqProofs (disch := first | decide | assumption | omega | (simp -implicitDefEqProofs only [AM.RN]; first | done | omega) | fail) only [↓AM.R0, AM.R1, AM.R2, Nat.reduceAdd, Nat.reduceLeDiff, Nat.reduceEqDiff, Int.reduceToNat, Nat.reduceLT, ↓reduceIte, Int.reduceEq, Int.reduceLT, Int.reduceLE, hl]
  refine AM.callI_of (count H l.length limit (by omega)) ?_
  rintro r h1 ⟨F1, f1, q1⟩
  simp -implicitDefEqProofs (disch := first | decide | assumption | omega | (simp -implicitDefEqProofs only [AM.RN]; first | done | omega) | fail) only [↓AM.R0, AM.R1, AM.R2, Nat.reduceAdd, Nat.reduceLeDiff, Nat.reduceEqDiff, Int.reduceToNat, Nat.reduceLT, ↓reduceIte, Int.reduceEq, Int.reduceLT, Int.reduceLE, hl]
  have hc := wcount_len s l.length limit
  refine AM.loopI_of (fun k e h' => ∃ (i : Nat) (F' : List Nat), k + i = l.length ∧ e.val 0 = .ptr w 0 0 ∧ e.val 13 = v ∧ e.val 14 = .int .i64 l.length ∧ e.val 15 = .int .i64 i ∧ HFrame h h' F F' ∧
    WAt h' w ((l.take i).foldl wnum (wcount s l.length limit)).1 ((l.take i).foldl wnum (wcount s l.length limit)).2 F') l.length ?_ ?_
  · refine ⟨0, F1, by simp, ?_, ?_, ?_, ?_, f1, q1⟩ <;> simp -implicitDefEqProofs (disch := first | decide | assumption | omega | (simp -implicitDefEqProofs only [AM.RN]; first | done | omega) | fail) only [↓AM.R0, AM.R1, AM.R2, Nat.reduceAdd, Nat.reduceLeDiff, Nat.reduceEqDiff, Int.reduceToNat, Nat.reduceLT, ↓reduceIte, Int.reduceEq, Int.reduceLT, Int.reduceLE] <;> rfl
  · rintro k e h' ⟨i, F', hk, e0, e13, e14, e15, f, q⟩
    simp -implicitDefEqProofs (disch := first | decide | assumption | omega | (simp -implicitDefEqProofs only [AM.RN]; first | done | omega) | fail) only [↓AM.R0, AM.R1, AM.R2, Nat.reduceAdd, Nat.reduceLeDiff, Nat.reduceEqDiff, Int.reduceToNat, Nat.reduceLT, ↓reduceIte, Int.reduceEq, Int.reduceLT, Int.reduceLE, e0, e13, e14, e15]
    refine AM.cI_bool (fun hb => ?_) (fun hb => ?_)
    · simp only [decide_eq_true_eq] at hb
      obtain ⟨a, ha⟩ : ∃ a, l[i]? = some a := ⟨_, List.getElem?_eq_getElem (by omega)⟩
      obtain ⟨j, g, off, vs, ro, x1, x2, x3, x5⟩ := ((hd h' f.n f.get).rd ha).ix1 (enc := fun n => .int .i64 n) ha .i64
      have hw : IntKind.i64.wrap ((i : Int) + 1) = ((i + 1 : Nat) : Int) := wrap64 (by omega) (by omega)
      simp -implicitDefEqProofs (disch := first | decide | assumption | omega | (simp -implicitDefEqProofs only [AM.RN]; first | done | omega) | fail) only [↓AM.R0, AM.R1, AM.R2, Nat.reduceAdd, Nat.reduceLeDiff, Nat.reduceEqDiff, Int.reduceToNat, Nat.reduceLT, ↓reduceIte, Int.reduceEq, Int.reduceLT, Int.reduceLE, e0, e13, e14, e15, x1, x2, x5]
      have hfl := fold_len (l.take i) (wcount s l.length limit)
      rw [List.length_take, Nat.min_eq_left (by omega)] at hfl
      refine AM.callI_of (number q a (by omega)) ?_
      rintro r h2 ⟨F2, f2, q2⟩
      simp -implicitDefEqProofs (disch := first | decide | assumption | omega | (simp -implicitDefEqProofs only [AM.RN]; first | done | omega) | fail) only [↓AM.R0, AM.R1, AM.R2, Nat.reduceAdd, Nat.reduceLeDiff, Nat.reduceEqDiff, Int.reduceToNat, Nat.reduceLT, ↓reduceIte, Int.reduceEq, Int.reduceLT, Int.reduceLE, e0, e13, e14, e15, hw]
      refine ⟨l.length - (i + 1), by omega, i + 1, F2, by omega, rfl, f.trans f2, ?_⟩
      rw [take_succ_of ha, List.foldl_append]
      exact q2
    · simp only [decide_eq_false_iff_not] at hb
      have : i = l.length := by omega
      subst this
      rw [List.take_length] at q
      simp -implicitDefEqProofs (disch := first | decide | assumption | omega | (simp -implicitDefEqProofs only [AM.RN]; first | done | omega) | fail) only [↓AM.R0, AM.R1, AM.R2, Nat.reduceAdd, Nat.reduceLeDiff, Nat.reduceEqDiff, Int.reduceToNat, Nat.reduceLT, ↓reduceIte, Int.reduceEq, Int.reduceLT, Int.reduceLE]
      subst hQ
      exact ⟨F', f, q⟩
end Go.Proofs.Ytfagngiceofoeaa.Cd

namespace Go.Proofs.Ytfagngiceofoeaa.Cd
open Go Go.AM Go.Proofs.Ytfagngiceofoeaa.AmGC
attribute [local irreducible] AM.wp AM.wpIs AM.wpTr AM.opI AM.gI AM.cI AM.trI AM.callI AM.fnI AM.trG AM.trOp AM.trCall AM.seqC AM.loopI
set_option maxRecDepth 100000
set_option linter.unusedVariables false
set_option linter.unusedSimpArgs false

def wins (s : WS) (op a b c : Int) (imm : Nat) (l : List Int) : WS := l.foldl wnum (wcount (wword ([op, a, b, c].foldl wnum s) imm) l.length 24)

set_option maxHeartbeats 1000000 in
theorem ins {h : AHeap} {w : Nat} {s : WS} {F : List Nat} (H : WAt h w s.1 s.2 F) (op a b c : Int) (imm : Nat) (himm : imm ≤ 18446744073709551615) {v : AVal} {l : List Int} (L : SlIn h 1 encK v l)
    (hd : ∀ (h' : AHeap), h.n ≤ h'.n → (∀ j, j < h.n → j ∉ F → h'.get j = h.get j) → SlIn h' 1 encK v l) (hr : s.1.length + 3 * l.length + 40 < 1073741824) :
    CallP AP 23 [.ptr w 0 0, .agg [.int .i64 op, .int .i64 a, .int .i64 b, .int .i64 c, .int .u64 imm, v]] h fun r h' => ∃ F', HFrame h h' F F' ∧ WAt h' w (wins s op a b c imm l).1 (wins s op a b c imm l).2 F' := by
  refine callP (rfl : Tr.get AP 23 = some A23) ?_
  generalize hQ : (fun (r : AVal) (h' : AHeap) => _) = Q
  have hl := L.len
  have hall := H.lt
  have hvc : v.cell = true := by
    rcases L with L | ⟨_, _, _, rfl, _⟩
    · exact L.cells.2
    · rfl
  simp -implicitDefEqProofs (disch := first | decide | assumption | omega | (simp -implicitDefEqProofs only [AM.RN]; first | done | omega) | fail) only [↓AM.R0, AM.R1, AM.R2, Nat.reduceAdd, Nat.reduceLeDiff, Nat.reduceEqDiff, Int.reduceToNat, Nat.reduceLT, ↓reduceIte, Int.reduceEq, Int.reduceLT, Int.reduceLE, hvc, AM.a_buildSlice, List.range, List.range.loop, List.getD_cons_zero, Nat.mod_one]
  obtain ⟨hB, hgB⟩ : ∃ hB, hB = (h.push (.cells 0 false [.int .i64 op, .int .i64 a, .int .i64 b, .int .i64 c, .int .u64 imm, v])).push (.cells 0 false [.int .i64 op, .int .i64 a, .int .i64 b, .int .i64 c]) := ⟨_, rfl⟩
  have hnB : hB.n = h.n + 2 := by rw [hgB]; rfl
  have g0 : hB.get h.n = .cells 0 false [.int .i64 op, .int .i64 a, .int .i64 b, .int .i64 c, .int .u64 imm, v] := by rw [hgB]; simp -implicitDefEqProofs (disch := first | decide | assumption | omega | (simp -implicitDefEqProofs only [AM.RN]; first | done | omega) | fail) only [↓AM.R0, AM.R1, AM.R2, Nat.reduceAdd, Nat.reduceLeDiff, Nat.reduceEqDiff, Int.reduceToNat, Nat.reduceLT, ↓reduceIte, Int.reduceEq, Int.reduceLT, Int.reduceLE]
  have g1 : hB.get (h.n + 1) = .cells 0 false [.int .i64 op, .int .i64 a, .int .i64 b, .int .i64 c] := by rw [hgB]; simp -implicitDefEqProofs (disch := first | decide | assumption | omega | (simp -implicitDefEqProofs only [AM.RN]; first | done | omega) | fail) only [↓AM.R0, AM.R1, AM.R2, Nat.reduceAdd, Nat.reduceLeDiff, Nat.reduceEqDiff, Int.reduceToNat, Nat.reduceLT, ↓reduceIte, Int.reduceEq, Int.reduceLT, Int.reduceLE]
  have fB : HFrame h hB F F := by rw [hgB]; exact ((HFrame.refl hall).pushTmp _).pushTmp _
  have HB : WAt hB w s.1 s.2 F := H.frame fB.n fun j hj => by rw [hgB, AHeap.get_push_ne _ _ (by have := hall j hj; simp; omega), AHeap.get_push_ne _ _ (by have := hall j hj; omega)]
  rw [← hgB]
  have hF : ∀ j, h.n ≤ j → j ∉ F := fun j hj hm => by have := hall j hm; omega
  refine AM.loopI_of (fun k e h' => ∃ (i : Nat) (F' : List Nat), k + i = 4 ∧ e.val 0 = .ptr w 0 0 ∧ e.val 3 = .ptr h.n 0 0 ∧ e.val 16 = .sl (h.n + 1) 0 0 4 1 ∧ e.val 17 = .int .i64 (4 : Nat) ∧ e.val 18 = .int .i64 i ∧ HFrame hB h' F F' ∧
    WAt h' w (([op, a, b, c].take i).foldl wnum s).1 (([op, a, b, c].take i).foldl wnum s).2 F') 4 ?_ ?_
  · refine ⟨0, F, by simp, ?_, ?_, ?_, ?_, ?_, HFrame.refl HB.lt, HB⟩ <;> simp -implicitDefEqProofs (disch := first | decide | assumption | omega | (simp -implicitDefEqProofs only [AM.RN]; first | done | omega) | fail) only [↓AM.R0, AM.R1, AM.R2, Nat.reduceAdd, Nat.reduceLeDiff, Nat.reduceEqDiff, Int.reduceToNat, Nat.reduceLT, ↓reduceIte, Int.reduceEq, Int.reduceLT, Int.reduceLE] <;> rfl
  · rintro k e h' ⟨i, F', hk, e0, e3, e16, e17, e18, f, q⟩
    simp -implicitDefEqProofs (disch := first | decide | assumption | omega | (simp -implicitDefEqProofs only [AM.RN]; first | done | omega) | fail) only [↓AM.R0, AM.R1, AM.R2, Nat.reduceAdd, Nat.reduceLeDiff, Nat.reduceEqDiff, Int.reduceToNat, Nat.reduceLT, ↓reduceIte, Int.reduceEq, Int.reduceLT, Int.reduceLE, e0, e3, e16, e17, e18]
    have G1 : h'.get (h.n + 1) = _ := (f.get (h.n + 1) (by omega) (hF _ (by omega))).trans g1
    have G0 : h'.get h.n = _ := (f.get h.n (by omega) (hF _ (by omega))).trans g0
    have hn' : h.n + 2 ≤ h'.n := by have := f.n; omega
    have hfl := fold_len ([op, a, b, c].take i) s
    rw [List.length_take] at hfl
    simp only [List.length_cons, List.length_nil] at hfl
    refine AM.cI_bool (fun hb => ?_) (fun hb => ?_)
    · simp only [decide_eq_true_eq] at hb
      obtain ⟨x, hx⟩ : ∃ x, [op, a, b, c][i]? = some x := ⟨_, List.getElem?_eq_getElem (by simp; omega)⟩
      have S : SlRd h' 1 encK (.sl (h.n + 1) 0 0 4 1) [op, a, b, c] := .inr ⟨h.n + 1, 0, 0, _, false, rfl, G1, by omega, by simp, by simp⟩
      obtain ⟨j, g, off, vs, ro, x1, x2, x3, x5⟩ := S.ix1 (enc := fun n => .int .i64 n) hx .i64
      have hw : IntKind.i64.wrap ((i : Int) + 1) = ((i + 1 : Nat) : Int) := wrap64 (by omega) (by omega)
      simp -implicitDefEqProofs (disch := first | decide | assumption | omega | (simp -implicitDefEqProofs only [AM.RN]; first | done | omega) | fail) only [↓AM.R0, AM.R1, AM.R2, Nat.reduceAdd, Nat.reduceLeDiff, Nat.reduceEqDiff, Int.reduceToNat, Nat.reduceLT, ↓reduceIte, Int.reduceEq, Int.reduceLT, Int.reduceLE, e0, e3, e16, e17, e18, x1, x2, x5]
      refine AM.callI_of (number q x (by omega)) ?_
      rintro r h2 ⟨F2, f2, q2⟩
      simp -implicitDefEqProofs (disch := first | decide | assumption | omega | (simp -implicitDefEqProofs only [AM.RN]; first | done | omega) | fail) only [↓AM.R0, AM.R1, AM.R2, Nat.reduceAdd, Nat.reduceLeDiff, Nat.reduceEqDiff, Int.reduceToNat, Nat.reduceLT, ↓reduceIte, Int.reduceEq, Int.reduceLT, Int.reduceLE, e0, e3, e16, e17, e18, hw]
      refine ⟨4 - (i + 1), by omega, i + 1, F2, by omega, rfl, f.trans f2, ?_⟩
      rw [take_succ_of hx, List.foldl_append]
      exact q2
    · have hi : i = 4 := by simp only [decide_eq_false_iff_not] at hb; omega
      subst hi
      rw [List.take_of_length_le (by simp)] at q
      have hfl4 := fold_len [op, a, b, c] s
      simp only [List.length_cons, List.length_nil] at hfl4
      simp -implicitDefEqProofs (disch := first | decide | assumption | omega | (simp -implicitDefEqProofs only [AM.RN]; first | done | omega) | fail) only [↓AM.R0, AM.R1, AM.R2, Nat.reduceAdd, Nat.reduceLeDiff, Nat.reduceEqDiff, Int.reduceToNat, Nat.reduceLT, ↓reduceIte, Int.reduceEq, Int.reduceLT, Int.reduceLE, e0, e3, G0]
      refine AM.callI_of (word q imm himm (by omega)) ?_
      rintro r h2 ⟨F2, f2, q2⟩
      have f02 := f.trans f2
      have G02 : h2.get h.n = _ := (f02.get h.n (by omega) (hF _ (by omega))).trans g0
      have hn2 : h.n + 2 ≤ h2.n := by have := f02.n; omega
      simp -implicitDefEqProofs (disch := first | decide | assumption | omega | (simp -implicitDefEqProofs only [AM.RN]; first | done | omega) | fail) only [↓AM.R0, AM.R1, AM.R2, Nat.reduceAdd, Nat.reduceLeDiff, Nat.reduceEqDiff, Int.reduceToNat, Nat.reduceLT, ↓reduceIte, Int.reduceEq, Int.reduceLT, Int.reduceLE, e0, e3, G02, hl]
      have hwl := wordB_len 9 imm (by have : (128 : Nat) ^ (9 + 1) = 1180591620717411303424 := by decide
                                      omega)
      have hs2 : (wword ([op, a, b, c].foldl wnum s) imm).1.length < 1073741824 - 3 * l.length - 6 := by
        have := fold_len [op, a, b, c] s
        simp only [wword, List.length_append, List.length_cons, List.length_nil] at this ⊢; omega
      refine AM.callI_of (count (s := wword ([op, a, b, c].foldl wnum s) imm) q2 l.length 24 (by omega)) ?_
      rintro r h3 ⟨F3, f3, q3⟩
      have f03 := f02.trans f3
      have G03 : h3.get h.n = _ := (f03.get h.n (by omega) (hF _ (by omega))).trans g0
      have hn3 : h.n + 2 ≤ h3.n := by have := f03.n; omega
      have hc := wcount_len (wword ([op, a, b, c].foldl wnum s) imm) l.length 24
      simp -implicitDefEqProofs (disch := first | decide | assumption | omega | (simp -implicitDefEqProofs only [AM.RN]; first | done | omega) | fail) only [↓AM.R0, AM.R1, AM.R2, Nat.reduceAdd, Nat.reduceLeDiff, Nat.reduceEqDiff, Int.reduceToNat, Nat.reduceLT, ↓reduceIte, Int.reduceEq, Int.reduceLT, Int.reduceLE, e0, e3, G03, hl]
      refine AM.loopI_of (fun k e h' => ∃ (i : Nat) (F' : List Nat), k + i = l.length ∧ e.val 0 = .ptr w 0 0 ∧ e.val 36 = v ∧ e.val 37 = .int .i64 l.length ∧ e.val 38 = .int .i64 i ∧ HFrame hB h' F F' ∧
        WAt h' w ((l.take i).foldl wnum (wcount (wword ([op, a, b, c].foldl wnum s) imm) l.length 24)).1 ((l.take i).foldl wnum (wcount (wword ([op, a, b, c].foldl wnum s) imm) l.length 24)).2 F') l.length ?_ ?_
      · refine ⟨0, F3, by simp, ?_, ?_, ?_, ?_, f03, q3⟩ <;> simp -implicitDefEqProofs (disch := first | decide | assumption | omega | (simp -implicitDefEqProofs only [AM.RN]; first | done | omega) | fail) only [↓AM.R0, AM.R1, AM.R2, Nat.reduceAdd, Nat.reduceLeDiff, Nat.reduceEqDiff, Int.reduceToNat, Nat.reduceLT, ↓reduceIte, Int.reduceEq, Int.reduceLT, Int.reduceLE, e0] <;> rfl
      · clear e0 e3 e16 e17 e18 f q G0 G1 hn' hb hk hfl
        rintro k e h' ⟨i, F', hk, e0, e36, e37, e38, f, q⟩
        simp -implicitDefEqProofs (disch := first | decide | assumption | omega | (simp -implicitDefEqProofs only [AM.RN]; first | done | omega) | fail) only [↓AM.R0, AM.R1, AM.R2, Nat.reduceAdd, Nat.reduceLeDiff, Nat.reduceEqDiff, Int.reduceToNat, Nat.reduceLT, ↓reduceIte, Int.reduceEq, Int.reduceLT, Int.reduceLE, e0, e36, e37, e38]
        refine AM.cI_bool (fun hb => ?_) (fun hb => ?_)
        · simp only [decide_eq_true_eq] at hb
          obtain ⟨x, hx⟩ : ∃ x, l[i]? = some x := ⟨_, List.getElem?_eq_getElem (by omega)⟩
          have ff := fB.trans f
          obtain ⟨j, g, off, vs, ro, x1, x2, x3, x5⟩ := ((hd h' ff.n ff.get).rd hx).ix1 (enc := fun n => .int .i64 n) hx .i64
          have hw : IntKind.i64.wrap ((i : Int) + 1) = ((i + 1 : Nat) : Int) := wrap64 (by omega) (by omega)
          simp -implicitDefEqProofs (disch := first | decide | assumption | omega | (simp -implicitDefEqProofs only [AM.RN]; first | done | omega) | fail) only [↓AM.R0, AM.R1, AM.R2, Nat.reduceAdd, Nat.reduceLeDiff, Nat.reduceEqDiff, Int.reduceToNat, Nat.reduceLT, ↓reduceIte, Int.reduceEq, Int.reduceLT, Int.reduceLE, e0, e36, e37, e38, x1, x2, x5]
          have hfl := fold_len (l.take i) (wcount (wword ([op, a, b, c].foldl wnum s) imm) l.length 24)
          rw [List.length_take, Nat.min_eq_left (by omega)] at hfl
          refine AM.callI_of (number q x (by omega)) ?_
          rintro r h2 ⟨F2, f2, q2⟩
          simp -implicitDefEqProofs (disch := first | decide | assumption | omega | (simp -implicitDefEqProofs only [AM.RN]; first | done | omega) | fail) only [↓AM.R0, AM.R1, AM.R2, Nat.reduceAdd, Nat.reduceLeDiff, Nat.reduceEqDiff, Int.reduceToNat, Nat.reduceLT, ↓reduceIte, Int.reduceEq, Int.reduceLT, Int.reduceLE, e0, e36, e37, e38, hw]
          refine ⟨l.length - (i + 1), by omega, i + 1, F2, by omega, rfl, f.trans f2, ?_⟩
          rw [take_succ_of hx, List.foldl_append]
          exact q2
        · have hi : i = l.length := by simp only [decide_eq_false_iff_not] at hb; omega
          subst hi
          rw [List.take_length] at q
          simp -implicitDefEqProofs (disch := first | decide | assumption | omega | (simp -implicitDefEqProofs only [AM.RN]; first | done | omega) | fail) only [↓AM.R0, AM.R1, AM.R2, Nat.reduceAdd, Nat.reduceLeDiff, Nat.reduceEqDiff, Int.reduceToNat, Nat.reduceLT, ↓reduceIte, Int.reduceEq, Int.reduceLT, Int.reduceLE]
          subst hQ
          exact ⟨F', fB.trans f, q⟩
end Go.Proofs.Ytfagngiceofoeaa.Cd

namespace Go.Proofs.Ytfagngiceofoeaa.Cd
open Go Go.AM Go.Proofs.Ytfagngiceofoeaa.AmGC
attribute [local irreducible] AM.wp AM.wpIs AM.wpTr AM.opI AM.gI AM.cI AM.trI AM.callI AM.fnI AM.trG AM.trOp AM.trCall AM.seqC AM.loopI
set_option maxRecDepth 100000
set_option linter.unusedVariables false
set_option linter.unusedSimpArgs false

structure PIns where
  op : Int
  a : Int
  b : Int
  c : Int
  imm : Nat
  list : List Int
structure PFunc where
  params : Int
  slots : List Int
  results : List Int
  code : List PIns
structure PProg where
  types : List (Bool × List Int)
  globals : List Int
  funcs : List PFunc

def TypeR (h : AHeap) (t : Bool × List Int) (row : List AVal) : Prop := ∃ v, row = [.bool t.1, v] ∧ SlIn h 1 encK v t.2
def InsR (h : AHeap) (i : PIns) (row : List AVal) : Prop := i.imm ≤ 18446744073709551615 ∧ ∃ v, row = [.int .i64 i.op, .int .i64 i.a, .int .i64 i.b, .int .i64 i.c, .int .u64 i.imm, v] ∧ SlIn h 1 encK v i.list
def FuncR (h : AHeap) (f : PFunc) (row : List AVal) : Prop := ∃ sv rv cv, row = [.int .i64 f.params, sv, rv, cv] ∧ SlIn h 1 encK sv f.slots ∧ SlIn h 1 encK rv f.results ∧ SlR h 6 (InsR h) cv f.code
def ProgR (h : AHeap) (p : PProg) (row : List AVal) : Prop := ∃ tv gv fv, row = [tv, gv, fv] ∧ SlR h 2 (TypeR h) tv p.types ∧ SlIn h 1 encK gv p.globals ∧ SlR h 4 (FuncR h) fv p.funcs

section
variable {h h' : AHeap} (hn : h.n ≤ h'.n) (k : ∀ j, j < h.n → h'.get j = h.get j)
 include hn k
theorem TypeR.mono {t : Bool × List Int} {row : List AVal} (r : TypeR h t row) : TypeR h' t row := by
  obtain ⟨v, e, s⟩ := r; exact ⟨v, e, s.mono hn k⟩
theorem InsR.mono {i : PIns} {row : List AVal} (r : InsR h i row) : InsR h' i row := by
  obtain ⟨q, v, e, s⟩ := r; exact ⟨q, v, e, s.mono hn k⟩
theorem FuncR.mono {f : PFunc} {row : List AVal} (r : FuncR h f row) : FuncR h' f row := by
  obtain ⟨a, b, c, e, s1, s2, s3⟩ := r
  exact ⟨a, b, c, e, s1.mono hn k, s2.mono hn k, s3.mono (fun _ _ q => InsR.mono hn k q) hn k⟩
theorem ProgR.mono {p : PProg} {row : List AVal} (r : ProgR h p row) : ProgR h' p row := by
  obtain ⟨a, b, c, e, s1, s2, s3⟩ := r
  exact ⟨a, b, c, e, s1.mono (fun _ _ q => TypeR.mono hn k q) hn k, s2.mono hn k, s3.mono (fun _ _ q => FuncR.mono hn k q) hn k⟩
end

/-! What Encode writes. -/
def wtype (s : WS) (t : Bool × List Int) : WS := wkinds (wnum s (if t.1 then 1 else 0)) t.2 16
def winsP (s : WS) (i : PIns) : WS := wins s i.op i.a i.b i.c i.imm i.list
def wfunc (s : WS) (f : PFunc) : WS := f.code.foldl winsP (wcount (wkinds (wkinds (wnum s f.params) f.slots 32) f.results 32) f.code.length 256)
def wprog (p : PProg) : WS := p.funcs.foldl wfunc (wcount (wkinds (p.types.foldl wtype (wcount ([], 0) p.types.length 32)) p.globals 32) p.funcs.length 32)

def tsz (t : Bool × List Int) : Nat := 6 + 3 * t.2.length
def isz (i : PIns) : Nat := 25 + 3 * i.list.length
def fsz (f : PFunc) : Nat := 12 + 3 * f.slots.length + 3 * f.results.length + (f.code.map isz).sum

theorem fold_sz {α : Type} (g : WS → α → WS) (sz : α → Nat) (hg : ∀ s a, (g s a).1.length ≤ s.1.length + sz a) (l : List α) : ∀ s : WS, (l.foldl g s).1.length ≤ s.1.length + (l.map sz).sum := by
  induction l with
  | nil => simp
  | cons a l ih => intro s; have h1 := hg s a; have h2 := ih (g s a); simp only [List.foldl_cons, List.map_cons, List.sum_cons]; omega
theorem sum_take {α : Type} (sz : α → Nat) (l : List α) : ∀ i, ((l.take i).map sz).sum ≤ (l.map sz).sum := by
  induction l with
  | nil => simp
  | cons a l ih =>
    intro i
    cases i with
    | zero => simp
    | succ i => have := ih i; simp only [List.take_succ_cons, List.map_cons, List.sum_cons]; omega
theorem sum_mem {α : Type} (sz : α → Nat) {l : List α} {i : Nat} {a : α} (h : l[i]? = some a) : ((l.take i).map sz).sum + sz a ≤ (l.map sz).sum := by
  have h1 := sum_take sz l (i + 1)
  rw [take_succ_of h, List.map_append, List.sum_append] at h1
  simpa using h1
theorem wkinds_len (s : WS) (l : List Int) (lim : Int) : (wkinds s l lim).1.length ≤ s.1.length + 3 + 3 * l.length := by
  have h1 := fold_len l (wcount s l.length lim)
  have h2 := wcount_len s l.length lim
  unfold wkinds; omega
theorem wtype_len (s : WS) (t : Bool × List Int) : (wtype s t).1.length ≤ s.1.length + tsz t := by
  have h1 := wnum_len s (if t.1 then 1 else 0)
  have h2 := wkinds_len (wnum s (if t.1 then 1 else 0)) t.2 16
  unfold wtype tsz; omega
theorem wins_len (s : WS) (i : PIns) (hi : i.imm ≤ 18446744073709551615) : (winsP s i).1.length ≤ s.1.length + isz i := by
  have h1 := fold_len [i.op, i.a, i.b, i.c] s
  have h2 := wordB_len 9 i.imm (by have : (128 : Nat) ^ (9 + 1) = 1180591620717411303424 := by decide
                                   omega)
  have h3 := wcount_len (wword ([i.op, i.a, i.b, i.c].foldl wnum s) i.imm) i.list.length 24
  have h4 := fold_len i.list (wcount (wword ([i.op, i.a, i.b, i.c].foldl wnum s) i.imm) i.list.length 24)
  simp only [wword, List.length_append, List.length_cons, List.length_nil] at h1 h3
  unfold winsP wins isz
  simp only [wword] at h4 ⊢
  omega
end Go.Proofs.Ytfagngiceofoeaa.Cd

namespace Go.Proofs.Ytfagngiceofoeaa.Cd
open Go Go.AM Go.Proofs.Ytfagngiceofoeaa.AmGC
attribute [local irreducible] AM.wp AM.wpIs AM.wpTr AM.opI AM.gI AM.cI AM.trI AM.callI AM.fnI AM.trG AM.trOp AM.trCall AM.seqC AM.loopI
set_option maxRecDepth 100000
set_option linter.unusedVariables false
set_option linter.unusedSimpArgs false

theorem out0 {h0 h : AHeap} {F : List Nat} (f : HFrame h0 h [] F) : ∀ j, j < h0.n → j ∉ F := fun j hj hm => by
  rcases f.new j hm with e | e
  · cases e
  · omega
theorem kindsAt {h0 h : AHeap} {w : Nat} {s : WS} {F : List Nat} (f0 : HFrame h0 h [] F) (H : WAt h w s.1 s.2 F) {v : AVal} {l : List Int} (L0 : SlIn h0 1 encK v l) (limit : Int) (hr : s.1.length + 3 * l.length + 3 < 1073741824) :
    CallP AP 22 [.ptr w 0 0, v, .int .i64 limit] h fun r h' => ∃ F', HFrame h0 h' [] F' ∧ WAt h' w (wkinds s l limit).1 (wkinds s l limit).2 F' :=
  (kinds H (L0.keep f0) (fun h' hn hk => L0.mono (Nat.le_trans f0.n hn) fun j hj => (hk j (Nat.lt_of_lt_of_le hj f0.n) (out0 f0 j hj)).trans (f0.get j hj (by simp))) limit hr).mono
    fun r h' ⟨F', f, q⟩ => ⟨F', f0.trans f, q⟩
theorem insAt {h0 h : AHeap} {w : Nat} {s : WS} {F : List Nat} (f0 : HFrame h0 h [] F) (H : WAt h w s.1 s.2 F) {i : PIns} {row : List AVal} (R : InsR h0 i row) (hr : s.1.length + 3 * i.list.length + 40 < 1073741824) :
    CallP AP 23 [.ptr w 0 0, .agg row] h fun r h' => ∃ F', HFrame h0 h' [] F' ∧ WAt h' w (winsP s i).1 (winsP s i).2 F' := by
  obtain ⟨hi, v, rfl, L0⟩ := R
  exact (ins H i.op i.a i.b i.c i.imm hi (L0.keep f0) (fun h' hn hk => L0.mono (Nat.le_trans f0.n hn) fun j hj => (hk j (Nat.lt_of_lt_of_le hj f0.n) (out0 f0 j hj)).trans (f0.get j hj (by simp))) hr).mono
    fun r h' ⟨F', f, q⟩ => ⟨F', f0.trans f, q⟩
theorem WAt.tmp {h : AHeap} {w : Nat} {out : List Int} {e : Int} {F : List Nat} (H : WAt h w out e F) (o o' : AObj) : WAt ((h.push o).set h.n o') w out e F :=
  H.frame (by simp) fun j hj => by have := H.lt j hj; rw [AHeap.get_set_ne _ _ (by omega), AHeap.get_push_ne _ _ (by omega)]
theorem SlIn.cellv {h : AHeap} {esz : Nat} {α : Type} {enc : α → List AVal} {v : AVal} {l : List α} (s : SlIn h esz enc v l) : v.cell = true := by
  rcases s with s | ⟨_, _, _, rfl, _⟩
  · exact s.cells.2
  · rfl
theorem SlR.cellv {h : AHeap} {esz : Nat} {α : Type} {R : α → List AVal → Prop} {v : AVal} {l : List α} (s : SlR h esz R v l) : v.cell = true := by
  rcases s with ⟨rfl, _⟩ | ⟨_, _, rfl, _⟩ | ⟨_, _, _, _, _, _, rfl, _⟩ <;> rfl

theorem fold_sz' {α : Type} (g : WS → α → WS) (sz : α → Nat) (l : List α) (hg : ∀ s a, a ∈ l → (g s a).1.length ≤ s.1.length + sz a) : ∀ s : WS, (l.foldl g s).1.length ≤ s.1.length + (l.map sz).sum := by
  induction l with
  | nil => simp
  | cons a l ih =>
    intro s
    have h1 := hg s a List.mem_cons_self
    have h2 := ih (fun s a h => hg s a (List.mem_cons_of_mem _ h)) (g s a)
    simp only [List.foldl_cons, List.map_cons, List.sum_cons]; omega
theorem len_sum {α : Type} (sz : α → Nat) (h : ∀ a, 1 ≤ sz a) (l : List α) : l.length ≤ (l.map sz).sum := by
  induction l with
  | nil => simp
  | cons a l ih => have := h a; simp only [List.length_cons, List.map_cons, List.sum_cons]; omega
def hdf (s : WS) (f : PFunc) : WS := wcount (wkinds (wkinds (wnum s f.params) f.slots 32) f.results 32) f.code.length 256
theorem hdf_len (s : WS) (f : PFunc) : (hdf s f).1.length ≤ s.1.length + 12 + 3 * f.slots.length + 3 * f.results.length := by
  have h1 := wnum_len s f.params
  have h2 := wkinds_len (wnum s f.params) f.slots 32
  have h3 := wkinds_len (wkinds (wnum s f.params) f.slots 32) f.results 32
  have h4 := wcount_len (wkinds (wkinds (wnum s f.params) f.slots 32) f.results 32) f.code.length 256
  unfold hdf; omega
theorem wfunc_len (s : WS) (f : PFunc) (hi : ∀ i, i ∈ f.code → i.imm ≤ 18446744073709551615) : (wfunc s f).1.length ≤ s.1.length + fsz f := by
  have h1 := hdf_len s f
  have h2 := fold_sz' winsP isz f.code (fun s a h => wins_len s a (hi a h)) (hdf s f)
  unfold wfunc fsz
  unfold hdf at h1 h2
  omega

def pszT (p : PProg) : Nat := (p.types.map tsz).sum
def pszF (p : PProg) : Nat := (p.funcs.map fsz).sum

set_option maxHeartbeats 4000000 in
theorem encode {h : AHeap} {p : PProg} {row : List AVal} (R : ProgR h p row) (hsz : pszT p + pszF p + 3 * p.globals.length + 200 < 1073741824) (himm : ∀ f, f ∈ p.funcs → ∀ i, i ∈ f.code → i.imm ≤ 18446744073709551615) :
    CallP AP 10 [.agg row] h fun r h' => ∃ ov Fo, HFrame h h' [] Fo ∧
      (if (wprog p).2 = 0 ∧ (wprog p).1.length ≤ 16384 then r = .tup [ov, .int .i64 0] ∧ SlOf h' 1 encB ov (wprog p).1 Fo
       else r = .tup [.nils, .int .i64 (if (wprog p).2 = 0 then 2 else (wprog p).2)]) := by
  obtain ⟨tv, gv, fv, rfl, RT, RG, RF⟩ := R
  refine callP (rfl : Tr.get AP 10 = some A10) ?_
  generalize hQ : (fun (r : AVal) (h' : AHeap) => _) = Q
  have c1 := SlR.cellv RT
  have c2 := SlIn.cellv RG
  have c3 := SlR.cellv RF
  have lT := RT.len
  have lF := RF.len
  obtain ⟨h0, hh0⟩ : ∃ h0, h0 = h.push (.cells 0 false [tv, gv, fv]) := ⟨_, rfl⟩
  have hn0 : h0.n = h.n + 1 := by rw [hh0]; rfl
  have hm : ∀ j, j < h.n → h0.get j = h.get j := fun j hj => by rw [hh0]; exact AHeap.get_push_ne _ _ (by omega)
  have RT0 := RT.mono (fun _ _ q => TypeR.mono (by omega) hm q) (by omega) hm
  have RG0 := RG.mono (by omega : h.n ≤ h0.n) hm
  have RF0 := RF.mono (fun _ _ q => FuncR.mono (by omega) hm q) (by omega) hm
  have g0 : h0.get h.n = .cells 0 false [tv, gv, fv] := by rw [hh0]; exact AHeap.get_push_same _ _
  have fW : HFrame h0 (h0.push (.cells 0 false [.nils, .int .i64 0])) [] [h0.n] := ⟨by simp, rfl, fun j hj _ => AHeap.get_push_ne _ _ (by omega), fun j hj => .inr (by simp at hj; omega), fun j hj => by simp at hj; simp; omega⟩
  have HW : WAt (h0.push (.cells 0 false [.nils, .int .i64 0])) h0.n [] 0 [h0.n] := ⟨.nils, [], AHeap.get_push_same _ _, by simp, SlOf.nil, by simp, rfl⟩
  have hszT : pszT p = (p.types.map tsz).sum := rfl
  have hszF : pszF p = (p.funcs.map fsz).sum := rfl
  have hTl : p.types.length ≤ (p.types.map tsz).sum := by
    clear RT RT0 lT hszT hsz
    induction p.types with
    | nil => simp
    | cons t l ih =>
      have : tsz t = 6 + 3 * t.2.length := rfl
      simp only [List.length_cons, List.map_cons, List.sum_cons]; omega
  have hFl : p.funcs.length ≤ (p.funcs.map fsz).sum := by
    clear RF RF0 lF hszF hsz
    induction p.funcs with
    | nil => simp
    | cons t l ih =>
      have : 12 ≤ fsz t := by unfold fsz; omega
      simp only [List.length_cons, List.map_cons, List.sum_cons]; omega
  simp -implicitDefEqProofs (disch := first | decide | assumption | omega | (simp -implicitDefEqProofs only [AM.RN]; first | done | omega) | fail) only [↓AM.R0, AM.R1, AM.R2, Nat.reduceAdd, Nat.reduceLeDiff, Nat.reduceEqDiff, Int.reduceToNat, Nat.reduceLT, ↓reduceIte, Int.reduceEq, Int.reduceLT, Int.reduceLE, c1, c2, c3]
  have gW : (h0.push (.cells 0 false [.nils, .int .i64 0])).get h.n = .cells 0 false [tv, gv, fv] := (fW.get h.n (by omega) (by simp)).trans g0
  have hnW : h.n < (h0.push (.cells 0 false [.nils, .int .i64 0])).n := by simp; omega
  rw [← hh0, ← hn0]
  generalize h0.push (.cells 0 false [.nils, .int .i64 0]) = hW at *
  simp -implicitDefEqProofs (disch := first | decide | assumption | omega | (simp -implicitDefEqProofs only [AM.RN]; first | done | omega) | fail) only [↓AM.R0, AM.R1, AM.R2, Nat.reduceAdd, Nat.reduceLeDiff, Nat.reduceEqDiff, Int.reduceToNat, Nat.reduceLT, ↓reduceIte, Int.reduceEq, Int.reduceLT, Int.reduceLE, gW, lT]
  refine AM.callI_of (count (s := ([], 0)) HW p.types.length 32 (by simp)) ?_
  rintro r h1 ⟨F1, f1, q1⟩
  have f01 := fW.trans f1
  have g1 : h1.get h.n = _ := (f01.get h.n (by omega) (by simp)).trans g0
  have hn1 : h.n < h1.n := by have := f01.n; omega
  have e1 := wcount_len ([], 0) p.types.length 32
  simp only [List.length_nil] at e1
  simp -implicitDefEqProofs (disch := first | decide | assumption | omega | (simp -implicitDefEqProofs only [AM.RN]; first | done | omega) | fail) only [↓AM.R0, AM.R1, AM.R2, Nat.reduceAdd, Nat.reduceLeDiff, Nat.reduceEqDiff, Int.reduceToNat, Nat.reduceLT, ↓reduceIte, Int.reduceEq, Int.reduceLT, Int.reduceLE, g1, lT]
  refine AM.loopI_of (fun k e h' => ∃ (i : Nat) (F' : List Nat), k + i = p.types.length ∧ e.val 1 = .ptr h.n 0 0 ∧ e.val 4 = .ptr h0.n 0 0 ∧ e.val 19 = tv ∧ e.val 20 = .int .i64 p.types.length ∧ e.val 21 = .int .i64 i ∧ HFrame h0 h' [] F' ∧
    WAt h' h0.n ((p.types.take i).foldl wtype (wcount ([], 0) p.types.length 32)).1 ((p.types.take i).foldl wtype (wcount ([], 0) p.types.length 32)).2 F') p.types.length ?_ ?_
  · refine ⟨0, F1, by simp, ?_, ?_, ?_, ?_, ?_, f01, q1⟩ <;> simp -implicitDefEqProofs (disch := first | decide | assumption | omega | (simp -implicitDefEqProofs only [AM.RN]; first | done | omega) | fail) only [↓AM.R0, AM.R1, AM.R2, Nat.reduceAdd, Nat.reduceLeDiff, Nat.reduceEqDiff, Int.reduceToNat, Nat.reduceLT, ↓reduceIte, Int.reduceEq, Int.reduceLT, Int.reduceLE] <;> rfl
  · clear f1 q1 f01 g1 hn1
    rintro k e h' ⟨i, F', hk, v1, v4, v19, v20, v21, f, q⟩
    simp -implicitDefEqProofs (disch := first | decide | assumption | omega | (simp -implicitDefEqProofs only [AM.RN]; first | done | omega) | fail) only [↓AM.R0, AM.R1, AM.R2, Nat.reduceAdd, Nat.reduceLeDiff, Nat.reduceEqDiff, Int.reduceToNat, Nat.reduceLT, ↓reduceIte, Int.reduceEq, Int.reduceLT, Int.reduceLE, v1, v4, v19, v20, v21]
    have efl := fold_sz wtype tsz wtype_len (p.types.take i) (wcount ([], 0) p.types.length 32)
    refine AM.cI_bool (fun hb => ?_) (fun hb => ?_)
    · simp only [decide_eq_true_eq] at hb
      obtain ⟨t, ht⟩ : ∃ t, p.types[i]? = some t := ⟨_, List.getElem?_eq_getElem (by omega)⟩
      have esum := sum_mem tsz ht
      obtain ⟨j, g, off, vs, ro, row, x1, x2, x3, x4, x5, x6, x7⟩ := (RT0.mono (h' := h') (R' := TypeR h0) (fun _ _ q => q) f.n fun j hj => f.get j hj (by simp)).ix ht .i64
      obtain ⟨fl, rfl, xl⟩ := x7
      have hc := SlIn.cellv xl
      have hw : IntKind.i64.wrap ((i : Int) + 1) = ((i + 1 : Nat) : Int) := wrap64 (by omega) (by omega)
      have etz : tsz t = 6 + 3 * t.2.length := rfl
      simp -implicitDefEqProofs (disch := first | decide | assumption | omega | (simp -implicitDefEqProofs only [AM.RN]; first | done | omega) | fail) only [↓AM.R0, AM.R1, AM.R2, Nat.reduceAdd, Nat.reduceLeDiff, Nat.reduceEqDiff, Int.reduceToNat, Nat.reduceLT, ↓reduceIte, Int.reduceEq, Int.reduceLT, Int.reduceLE, v1, v4, v19, v20, v21, x1, x2, x5, hc]
      refine AM.callI_of (flag _ t.1) ?_
      intro r h2 hr
      rw [hr.1, hr.2]
      clear hr
      simp -implicitDefEqProofs (disch := first | decide | assumption | omega | (simp -implicitDefEqProofs only [AM.RN]; first | done | omega) | fail) only [↓AM.R0, AM.R1, AM.R2, Nat.reduceAdd, Nat.reduceLeDiff, Nat.reduceEqDiff, Int.reduceToNat, Nat.reduceLT, ↓reduceIte, Int.reduceEq, Int.reduceLT, Int.reduceLE, v1, v4]
      have fA := (f.pushTmp (.cells 0 false [.bool false, .nils])).setTmp (i := h'.n) f.n (.cells 0 false [.bool t.1, fl])
      have qA := q.tmp (.cells 0 false [.bool false, .nils]) (.cells 0 false [.bool t.1, fl])
      have hout := out0 f
      have hnF : h'.n ∉ F' := fun hm => Nat.lt_irrefl _ (q.lt _ hm)
      refine AM.callI_of (number qA (if t.1 then 1 else 0) (by omega)) ?_
      rintro r h3 ⟨F3, f3, q3⟩
      have g3 : h3.get h'.n = .cells 0 false [.bool t.1, fl] := (f3.get h'.n (by simp) hnF).trans (AHeap.get_set_same _ _ _)
      have hn3 : h'.n < h3.n := Nat.lt_of_lt_of_le (by simp) f3.n
      have e3 := wnum_len ((p.types.take i).foldl wtype (wcount ([], 0) p.types.length 32)) (if t.1 then 1 else 0)
      simp -implicitDefEqProofs (disch := first | decide | assumption | omega | (simp -implicitDefEqProofs only [AM.RN]; first | done | omega) | fail) only [↓AM.R0, AM.R1, AM.R2, Nat.reduceAdd, Nat.reduceLeDiff, Nat.reduceEqDiff, Int.reduceToNat, Nat.reduceLT, ↓reduceIte, Int.reduceEq, Int.reduceLT, Int.reduceLE, v1, v4, g3]
      refine AM.callI_of (kindsAt (fA.trans f3) q3 xl 16 (by omega)) ?_
      rintro r h4 ⟨F4, f4, q4⟩
      simp -implicitDefEqProofs (disch := first | decide | assumption | omega | (simp -implicitDefEqProofs only [AM.RN]; first | done | omega) | fail) only [↓AM.R0, AM.R1, AM.R2, Nat.reduceAdd, Nat.reduceLeDiff, Nat.reduceEqDiff, Int.reduceToNat, Nat.reduceLT, ↓reduceIte, Int.reduceEq, Int.reduceLT, Int.reduceLE, v1, v4, v19, v20, v21, hw]
      refine ⟨p.types.length - (i + 1), by omega, i + 1, F4, by omega, rfl, f4, ?_⟩
      rw [take_succ_of ht, List.foldl_append]
      exact q4
    · have hi : i = p.types.length := by simp only [decide_eq_false_iff_not] at hb; omega
      subst hi
      rw [List.take_length] at q efl
      have g1 : h'.get h.n = _ := (f.get h.n (by omega) (by simp)).trans g0
      have hn1 : h.n < h'.n := by have := f.n; omega
      simp -implicitDefEqProofs (disch := first | decide | assumption | omega | (simp -implicitDefEqProofs only [AM.RN]; first | done | omega) | fail) only [↓AM.R0, AM.R1, AM.R2, Nat.reduceAdd, Nat.reduceLeDiff, Nat.reduceEqDiff, Int.reduceToNat, Nat.reduceLT, ↓reduceIte, Int.reduceEq, Int.reduceLT, Int.reduceLE, v1, v4, g1]
      refine AM.callI_of (kindsAt f q RG0 32 (by omega)) ?_
      rintro r h2 ⟨F2, f2, q2⟩
      have g2 : h2.get h.n = _ := (f2.get h.n (by omega) (by simp)).trans g0
      have hn2 : h.n < h2.n := by have := f2.n; omega
      have e2 := wkinds_len (p.types.foldl wtype (wcount ([], 0) p.types.length 32)) p.globals 32
      simp -implicitDefEqProofs (disch := first | decide | assumption | omega | (simp -implicitDefEqProofs only [AM.RN]; first | done | omega) | fail) only [↓AM.R0, AM.R1, AM.R2, Nat.reduceAdd, Nat.reduceLeDiff, Nat.reduceEqDiff, Int.reduceToNat, Nat.reduceLT, ↓reduceIte, Int.reduceEq, Int.reduceLT, Int.reduceLE, v1, v4, g2, lF]
      refine AM.callI_of (count q2 p.funcs.length 32 (by omega)) ?_
      rintro r h3 ⟨F3, f3, q3⟩
      have f03 := f2.trans f3
      have g3 : h3.get h.n = _ := (f03.get h.n (by omega) (by simp)).trans g0
      have hn3 : h.n < h3.n := by have := f03.n; omega
      have e3 := wcount_len (wkinds (p.types.foldl wtype (wcount ([], 0) p.types.length 32)) p.globals 32) p.funcs.length 32
      obtain ⟨W3, hW3⟩ : ∃ W3, W3 = wcount (wkinds (p.types.foldl wtype (wcount ([], 0) p.types.length 32)) p.globals 32) p.funcs.length 32 := ⟨_, rfl⟩
      rw [← hW3] at q3 e3
      simp -implicitDefEqProofs (disch := first | decide | assumption | omega | (simp -implicitDefEqProofs only [AM.RN]; first | done | omega) | fail) only [↓AM.R0, AM.R1, AM.R2, Nat.reduceAdd, Nat.reduceLeDiff, Nat.reduceEqDiff, Int.reduceToNat, Nat.reduceLT, ↓reduceIte, Int.reduceEq, Int.reduceLT, Int.reduceLE, v1, v4, g3, lF]
      refine AM.loopI_of (fun k e h' => ∃ (i : Nat) (F' : List Nat), k + i = p.funcs.length ∧ e.val 4 = .ptr h0.n 0 0 ∧ e.val 45 = fv ∧ e.val 46 = .int .i64 p.funcs.length ∧ e.val 47 = .int .i64 i ∧ HFrame h0 h' [] F' ∧
        WAt h' h0.n ((p.funcs.take i).foldl wfunc W3).1 ((p.funcs.take i).foldl wfunc W3).2 F') p.funcs.length ?_ ?_
      · refine ⟨0, F3, by simp, ?_, ?_, ?_, ?_, f03, q3⟩ <;> simp -implicitDefEqProofs (disch := first | decide | assumption | omega | (simp -implicitDefEqProofs only [AM.RN]; first | done | omega) | fail) only [↓AM.R0, AM.R1, AM.R2, Nat.reduceAdd, Nat.reduceLeDiff, Nat.reduceEqDiff, Int.reduceToNat, Nat.reduceLT, ↓reduceIte, Int.reduceEq, Int.reduceLT, Int.reduceLE, v4] <;> rfl
      · clear v1 v4 v19 v20 v21 f q f2 q2 f3 q3 f03 g1 g2 g3 hn1 hn2 hn3 hb hk
        rintro k e h' ⟨i, F', hk, v4, v45, v46, v47, f, q⟩
        simp -implicitDefEqProofs (disch := first | decide | assumption | omega | (simp -implicitDefEqProofs only [AM.RN]; first | done | omega) | fail) only [↓AM.R0, AM.R1, AM.R2, Nat.reduceAdd, Nat.reduceLeDiff, Nat.reduceEqDiff, Int.reduceToNat, Nat.reduceLT, ↓reduceIte, Int.reduceEq, Int.reduceLT, Int.reduceLE, v4, v45, v46, v47]
        have efl2 := fold_sz' wfunc fsz (p.funcs.take i) (fun s a h => wfunc_len s a (himm a (List.mem_of_mem_take h))) W3
        refine AM.cI_bool (fun hb => ?_) (fun hb => ?_)
        · simp only [decide_eq_true_eq] at hb
          obtain ⟨t, ht⟩ : ∃ t, p.funcs[i]? = some t := ⟨_, List.getElem?_eq_getElem (by omega)⟩
          have esum := sum_mem fsz ht
          obtain ⟨j, g, off, vs, ro, row, x1, x2, x3, x4, x5, x6, x7⟩ := (RF0.mono (h' := h') (R' := FuncR h0) (fun _ _ q => q) f.n fun j hj => f.get j hj (by simp)).ix ht .i64
          obtain ⟨sv, rv, cv, rfl, ys, yr, yc⟩ := x7
          have k1 := SlIn.cellv ys
          have k2 := SlIn.cellv yr
          have k3 := SlR.cellv yc
          have lc := yc.len
          have hw : IntKind.i64.wrap ((i : Int) + 1) = ((i + 1 : Nat) : Int) := wrap64 (by omega) (by omega)
          have ez : fsz t = 12 + 3 * t.slots.length + 3 * t.results.length + (t.code.map isz).sum := rfl
          simp -implicitDefEqProofs (disch := first | decide | assumption | omega | (simp -implicitDefEqProofs only [AM.RN]; first | done | omega) | fail) only [↓AM.R0, AM.R1, AM.R2, Nat.reduceAdd, Nat.reduceLeDiff, Nat.reduceEqDiff, Int.reduceToNat, Nat.reduceLT, ↓reduceIte, Int.reduceEq, Int.reduceLT, Int.reduceLE, v4, v45, v46, v47, x1, x2, x5, k1, k2, k3]
          obtain ⟨S, hS⟩ : ∃ S, S = (p.funcs.take i).foldl wfunc W3 := ⟨_, rfl⟩
          rw [← hS] at q efl2
          have fA := (f.pushTmp (.cells 0 false [.int .i64 0, .nils, .nils, .nils])).setTmp (i := h'.n) f.n (.cells 0 false [.int .i64 t.params, sv, rv, cv])
          have qA := q.tmp (.cells 0 false [.int .i64 0, .nils, .nils, .nils]) (.cells 0 false [.int .i64 t.params, sv, rv, cv])
          have hnF : h'.n ∉ F' := fun hm => Nat.lt_irrefl _ (q.lt _ hm)
          have gA : ((h'.push (.cells 0 false [.int .i64 0, .nils, .nils, .nils])).set h'.n (.cells 0 false [.int .i64 t.params, sv, rv, cv])).get h'.n = .cells 0 false [.int .i64 t.params, sv, rv, cv] := AHeap.get_set_same _ _ _
          have hnA : h'.n < ((h'.push (.cells 0 false [.int .i64 0, .nils, .nils, .nils])).set h'.n (.cells 0 false [.int .i64 t.params, sv, rv, cv])).n := by simp
          generalize (h'.push (.cells 0 false [.int .i64 0, .nils, .nils, .nils])).set h'.n (.cells 0 false [.int .i64 t.params, sv, rv, cv]) = hA at *
          have xs := SlIn.keep ys fA
          refine AM.callI_of (number qA t.params (by omega)) ?_
          rintro r h3 ⟨F3, f3, q3⟩
          have g3 : h3.get h'.n = _ := (f3.get h'.n hnA hnF).trans gA
          have hn3 : h'.n < h3.n := Nat.lt_of_lt_of_le hnA f3.n
          have hnF3 : h'.n ∉ F3 := f3.out hnF hnA
          have e3' := wnum_len S t.params
          simp -implicitDefEqProofs (disch := first | decide | assumption | omega | (simp -implicitDefEqProofs only [AM.RN]; first | done | omega) | fail) only [↓AM.R0, AM.R1, AM.R2, Nat.reduceAdd, Nat.reduceLeDiff, Nat.reduceEqDiff, Int.reduceToNat, Nat.reduceLT, ↓reduceIte, Int.reduceEq, Int.reduceLT, Int.reduceLE, v4, g3]
          refine AM.callI_of (kinds q3 (ys.keep (fA.trans f3)) (fun h'' hn hk => ys.mono (Nat.le_trans (fA.trans f3).n hn) fun j hj => (hk j (Nat.lt_of_lt_of_le hj (fA.trans f3).n) (out0 (fA.trans f3) j hj)).trans ((fA.trans f3).get j hj (by simp))) 32 (by omega)) ?_
          rintro r h4 ⟨F4, f4, q4⟩
          have g4 : h4.get h'.n = _ := (f4.get h'.n hn3 hnF3).trans g3
          have hn4 : h'.n < h4.n := Nat.lt_of_lt_of_le hn3 f4.n
          have hnF4 : h'.n ∉ F4 := f4.out hnF3 hn3
          have fa4 := (fA.trans f3).trans f4
          have e4' := wkinds_len (wnum S t.params) t.slots 32
          simp -implicitDefEqProofs (disch := first | decide | assumption | omega | (simp -implicitDefEqProofs only [AM.RN]; first | done | omega) | fail) only [↓AM.R0, AM.R1, AM.R2, Nat.reduceAdd, Nat.reduceLeDiff, Nat.reduceEqDiff, Int.reduceToNat, Nat.reduceLT, ↓reduceIte, Int.reduceEq, Int.reduceLT, Int.reduceLE, v4, g4]
          refine AM.callI_of (kinds q4 (yr.keep fa4) (fun h'' hn hk => yr.mono (Nat.le_trans fa4.n hn) fun j hj => (hk j (Nat.lt_of_lt_of_le hj fa4.n) (out0 fa4 j hj)).trans (fa4.get j hj (by simp))) 32 (by omega)) ?_
          rintro r h5 ⟨F5, f5, q5⟩
          have g5 : h5.get h'.n = _ := (f5.get h'.n hn4 hnF4).trans g4
          have hn5 : h'.n < h5.n := Nat.lt_of_lt_of_le hn4 f5.n
          have hnF5 : h'.n ∉ F5 := f5.out hnF4 hn4
          have fa5 := fa4.trans f5
          have e5' := wkinds_len (wkinds (wnum S t.params) t.slots 32) t.results 32
          simp -implicitDefEqProofs (disch := first | decide | assumption | omega | (simp -implicitDefEqProofs only [AM.RN]; first | done | omega) | fail) only [↓AM.R0, AM.R1, AM.R2, Nat.reduceAdd, Nat.reduceLeDiff, Nat.reduceEqDiff, Int.reduceToNat, Nat.reduceLT, ↓reduceIte, Int.reduceEq, Int.reduceLT, Int.reduceLE, v4, g5, lc]
          refine AM.callI_of (count q5 t.code.length 256 (by omega)) ?_
          rintro r h6 ⟨F6, f6, q6⟩
          have g6 : h6.get h'.n = _ := (f6.get h'.n hn5 hnF5).trans g5
          have hn6 : h'.n < h6.n := Nat.lt_of_lt_of_le hn5 f6.n
          have fa6 := fa5.trans f6
          have e6' := wcount_len (wkinds (wkinds (wnum S t.params) t.slots 32) t.results 32) t.code.length 256
          simp -implicitDefEqProofs (disch := first | decide | assumption | omega | (simp -implicitDefEqProofs only [AM.RN]; first | done | omega) | fail) only [↓AM.R0, AM.R1, AM.R2, Nat.reduceAdd, Nat.reduceLeDiff, Nat.reduceEqDiff, Int.reduceToNat, Nat.reduceLT, ↓reduceIte, Int.reduceEq, Int.reduceLT, Int.reduceLE, v4, g6, lc]
          have q6' : WAt h6 h0.n (hdf S t).1 (hdf S t).2 F6 := q6
          have ehd := hdf_len S t
          have hcl := len_sum isz (fun a => by unfold isz; omega) t.code
          refine AM.loopI_of (fun k e h' => ∃ (y : Nat) (F' : List Nat), k + y = t.code.length ∧ e.val 4 = .ptr h0.n 0 0 ∧ e.val 45 = fv ∧ e.val 46 = .int .i64 p.funcs.length ∧ e.val 47 = .int .i64 i ∧ e.val 69 = cv ∧ e.val 70 = .int .i64 t.code.length ∧ e.val 71 = .int .i64 y ∧ HFrame h0 h' [] F' ∧
            WAt h' h0.n ((t.code.take y).foldl winsP (hdf S t)).1 ((t.code.take y).foldl winsP (hdf S t)).2 F') t.code.length ?_ ?_
          · refine ⟨0, F6, by simp, ?_, ?_, ?_, ?_, ?_, ?_, ?_, fa6, q6'⟩ <;> simp -implicitDefEqProofs (disch := first | decide | assumption | omega | (simp -implicitDefEqProofs only [AM.RN]; first | done | omega) | fail) only [↓AM.R0, AM.R1, AM.R2, Nat.reduceAdd, Nat.reduceLeDiff, Nat.reduceEqDiff, Int.reduceToNat, Nat.reduceLT, ↓reduceIte, Int.reduceEq, Int.reduceLT, Int.reduceLE, v4, v45, v46, v47] <;> rfl
          · rintro k2 e2 h7 ⟨y, F7, hk2, u4, u45, u46, u47, u69, u70, u71, f7, q7⟩
            simp -implicitDefEqProofs (disch := first | decide | assumption | omega | (simp -implicitDefEqProofs only [AM.RN]; first | done | omega) | fail) only [↓AM.R0, AM.R1, AM.R2, Nat.reduceAdd, Nat.reduceLeDiff, Nat.reduceEqDiff, Int.reduceToNat, Nat.reduceLT, ↓reduceIte, Int.reduceEq, Int.reduceLT, Int.reduceLE, u4, u45, u46, u47, u69, u70, u71]
            have himt := himm t (List.mem_of_getElem? ht)
            have efl3 := fold_sz' winsP isz (t.code.take y) (fun s a h => wins_len s a (himt a (List.mem_of_mem_take h))) (hdf S t)
            refine AM.cI_bool (fun hb2 => ?_) (fun hb2 => ?_)
            · simp only [decide_eq_true_eq] at hb2
              obtain ⟨z, hz⟩ : ∃ z, t.code[y]? = some z := ⟨_, List.getElem?_eq_getElem (by omega)⟩
              have esum2 := sum_mem isz hz
              obtain ⟨j, g, off, vs, ro, row, x1, x2, x3, x4, x5, x6, x7⟩ := (yc.mono (h' := h7) (R' := InsR h0) (fun _ _ q => q) f7.n fun j hj => f7.get j hj (by simp)).ix hz .i64
              have hx7 := x7
              obtain ⟨_, lv, rfl, zl⟩ := x7
              have k4 := SlIn.cellv zl
              have hw2 : IntKind.i64.wrap ((y : Int) + 1) = ((y + 1 : Nat) : Int) := wrap64 (by omega) (by omega)
              have ez2 : isz z = 25 + 3 * z.list.length := rfl
              simp -implicitDefEqProofs (disch := first | decide | assumption | omega | (simp -implicitDefEqProofs only [AM.RN]; first | done | omega) | fail) only [↓AM.R0, AM.R1, AM.R2, Nat.reduceAdd, Nat.reduceLeDiff, Nat.reduceEqDiff, Int.reduceToNat, Nat.reduceLT, ↓reduceIte, Int.reduceEq, Int.reduceLT, Int.reduceLE, u4, u45, u46, u47, u69, u70, u71, x1, x2, x5, k4]
              have fT := (f7.pushTmp (.cells 0 false [.int .i64 0, .int .i64 0, .int .i64 0, .int .i64 0, .int .u64 0, .nils])).setTmp (i := h7.n) f7.n (.cells 0 false [.int .i64 z.op, .int .i64 z.a, .int .i64 z.b, .int .i64 z.c, .int .u64 z.imm, lv])
              have qT := q7.tmp (.cells 0 false [.int .i64 0, .int .i64 0, .int .i64 0, .int .i64 0, .int .u64 0, .nils]) (.cells 0 false [.int .i64 z.op, .int .i64 z.a, .int .i64 z.b, .int .i64 z.c, .int .u64 z.imm, lv])
              refine AM.callI_of (insAt fT qT hx7 (by omega)) ?_
              rintro r h8 ⟨F8, f8, q8⟩
              simp -implicitDefEqProofs (disch := first | decide | assumption | omega | (simp -implicitDefEqProofs only [AM.RN]; first | done | omega) | fail) only [↓AM.R0, AM.R1, AM.R2, Nat.reduceAdd, Nat.reduceLeDiff, Nat.reduceEqDiff, Int.reduceToNat, Nat.reduceLT, ↓reduceIte, Int.reduceEq, Int.reduceLT, Int.reduceLE, u4, u45, u46, u47, u69, u70, u71, hw2]
              refine ⟨t.code.length - (y + 1), by omega, y + 1, F8, by omega, rfl, f8, ?_⟩
              rw [take_succ_of hz, List.foldl_append]
              exact q8
            · have hy : y = t.code.length := by simp only [decide_eq_false_iff_not] at hb2; omega
              subst hy
              rw [List.take_length] at q7
              simp -implicitDefEqProofs (disch := first | decide | assumption | omega | (simp -implicitDefEqProofs only [AM.RN]; first | done | omega) | fail) only [↓AM.R0, AM.R1, AM.R2, Nat.reduceAdd, Nat.reduceLeDiff, Nat.reduceEqDiff, Int.reduceToNat, Nat.reduceLT, ↓reduceIte, Int.reduceEq, Int.reduceLT, Int.reduceLE, u4, u45, u46, u47, hw]
              refine ⟨p.funcs.length - (i + 1), by omega, i + 1, F7, by omega, rfl, f7, ?_⟩
              rw [take_succ_of ht, List.foldl_append, ← hS]
              exact q7
        · have hi : i = p.funcs.length := by simp only [decide_eq_false_iff_not] at hb; omega
          subst hi
          rw [List.take_length] at q
          have hP : p.funcs.foldl wfunc W3 = wprog p := by rw [hW3]; rfl
          rw [hP] at q
          have flt := q.lt
          obtain ⟨ov, Fo, ho, hlt, hs, hwo, rfl⟩ := q
          have lo := hs.len
          simp -implicitDefEqProofs (disch := first | decide | assumption | omega | (simp -implicitDefEqProofs only [AM.RN]; first | done | omega) | fail) only [↓AM.R0, AM.R1, AM.R2, Nat.reduceAdd, Nat.reduceLeDiff, Nat.reduceEqDiff, Int.reduceToNat, Nat.reduceLT, ↓reduceIte, Int.reduceEq, Int.reduceLT, Int.reduceLE, v4, ho, lo]
          have fh : ∀ G, (∀ j, j ∈ G → j ∈ Fo) → HFrame h h' [] G := fun G hG => ⟨by have := f.n; omega, by rw [f.g, hh0]; rfl, fun j hj _ => (f.get j (by omega) (by simp)).trans (hm j hj), fun j hj => by
              rcases f.new j (List.mem_cons_of_mem _ (hG j hj)) with e | e
              · cases e
              · exact .inr (by omega), fun j hj => flt j (List.mem_cons_of_mem _ (hG j hj))⟩
          refine AM.gI_bool (fun hc => ?_) (fun hc => ?_)
          · simp -implicitDefEqProofs (disch := first | decide | assumption | omega | (simp -implicitDefEqProofs only [AM.RN]; first | done | omega) | fail) only [↓AM.R0, AM.R1, AM.R2, Nat.reduceAdd, Nat.reduceLeDiff, Nat.reduceEqDiff, Int.reduceToNat, Nat.reduceLT, ↓reduceIte, Int.reduceEq, Int.reduceLT, Int.reduceLE, v4, ho, lo, hc]
            simp only [decide_eq_true_eq] at hc
            refine AM.cI_bool (fun hd => ?_) (fun hd => ?_)
            · simp only [decide_eq_true_eq] at hd
              simp -implicitDefEqProofs (disch := first | decide | assumption | omega | (simp -implicitDefEqProofs only [AM.RN]; first | done | omega) | fail) only [↓AM.R0, AM.R1, AM.R2, Nat.reduceAdd, Nat.reduceLeDiff, Nat.reduceEqDiff, Int.reduceToNat, Nat.reduceLT, ↓reduceIte, Int.reduceEq, Int.reduceLT, Int.reduceLE, v4, ho, hc]
              subst hQ
              refine ⟨.nils, [], (fh [] (by simp)).setTmp (by omega) _, ?_⟩
              rw [if_neg (by omega), if_pos hc]
            · simp only [decide_eq_false_iff_not] at hd
              simp -implicitDefEqProofs (disch := first | decide | assumption | omega | (simp -implicitDefEqProofs only [AM.RN]; first | done | omega) | fail) only [↓AM.R0, AM.R1, AM.R2, Nat.reduceAdd, Nat.reduceLeDiff, Nat.reduceEqDiff, Int.reduceToNat, Nat.reduceLT, ↓reduceIte, Int.reduceEq, Int.reduceLT, Int.reduceLE, v4, ho, hc]
              subst hQ
              refine ⟨ov, Fo, fh Fo (fun j h => h), ?_⟩
              rw [if_pos ⟨hc, by omega⟩]
              exact ⟨rfl, hs⟩
          · simp -implicitDefEqProofs (disch := first | decide | assumption | omega | (simp -implicitDefEqProofs only [AM.RN]; first | done | omega) | fail) only [↓AM.R0, AM.R1, AM.R2, Nat.reduceAdd, Nat.reduceLeDiff, Nat.reduceEqDiff, Int.reduceToNat, Nat.reduceLT, ↓reduceIte, Int.reduceEq, Int.reduceLT, Int.reduceLE, v4, ho, lo, hc]
            simp only [decide_eq_false_iff_not] at hc
            subst hQ
            refine ⟨.nils, [], fh [] (by simp), ?_⟩
            rw [if_neg (by intro h; exact hc h.1), if_neg hc]
end Go.Proofs.Ytfagngiceofoeaa.Cd

namespace Go.Proofs.Ytfagngiceofoeaa.Cd
open Go Go.AM Go.Proofs.Ytfagngiceofoeaa.AmGC
attribute [local irreducible] AM.wp AM.wpIs AM.wpTr AM.opI AM.gI AM.cI AM.trI AM.callI AM.fnI AM.trG AM.trOp AM.trCall AM.seqC AM.loopI
set_option maxRecDepth 100000
set_option linter.unusedVariables false
set_option linter.unusedSimpArgs false

theorem or128 : ∀ m : Nat, m < 256 → m ||| 128 = m % 128 + 128 := by decide
theorem wordB_step {m : Nat} (h : 127 < m) : wordB m = ((m % 128 + 128 : Nat) : Int) :: wordB (m / 128) := by
  rw [wordB, if_pos h, or128 _ (Nat.mod_lt _ (by omega)), show m % 256 % 128 = m % 128 by omega]

/-- The document's Word. -/
theorem refWord (h : AHeap) (n : Nat) (hn : n ≤ 18446744073709551615) : CallP AP 38 [.int .u64 n] h fun r h' => ∃ Fl, SlOf h' 1 encB r (wordB n) Fl ∧ HFrame h h' [] Fl := by
  refine callP (rfl : Tr.get AP 38 = some A38) ?_
  generalize hQ : (fun (r : AVal) (h' : AHeap) => _) = Q
  simp -implicitDefEqProofs (disch := first | decide | assumption | omega | (simp -implicitDefEqProofs only [AM.RN]; first | done | omega) | fail) only [↓AM.R0, AM.R1, AM.R2, Nat.reduceAdd, Nat.reduceLeDiff, Nat.reduceEqDiff, Int.reduceToNat, Nat.reduceLT, ↓reduceIte, Int.reduceEq, Int.reduceLT, Int.reduceLE]
  refine AM.loopI_of (fun k e h' => ∃ (m d : Nat) (o : List Int) (rv : AVal) (F' : List Nat), m ≤ n ∧ k = m ∧ e.val 0 = .int .u64 m ∧ e.val 3 = rv ∧ wordB n = o ++ wordB m ∧ o.length = d ∧ d ≤ 10 ∧ m < 128 ^ (10 - d) ∧ SlOf h' 1 encB rv o F' ∧ HFrame h h' [] F') n ?_ ?_
  · refine ⟨n, 0, [], .nils, [], Nat.le_refl _, rfl, ?_, ?_, rfl, rfl, by omega, ?_, SlOf.nil, HFrame.refl (by simp)⟩
    · simp -implicitDefEqProofs (disch := first | decide | assumption | omega | (simp -implicitDefEqProofs only [AM.RN]; first | done | omega) | fail) only [↓AM.R0, AM.R1, AM.R2, Nat.reduceAdd, Nat.reduceLeDiff, Nat.reduceEqDiff, Int.reduceToNat, Nat.reduceLT, ↓reduceIte, Int.reduceEq, Int.reduceLT, Int.reduceLE]
    · simp -implicitDefEqProofs (disch := first | decide | assumption | omega | (simp -implicitDefEqProofs only [AM.RN]; first | done | omega) | fail) only [↓AM.R0, AM.R1, AM.R2, Nat.reduceAdd, Nat.reduceLeDiff, Nat.reduceEqDiff, Int.reduceToNat, Nat.reduceLT, ↓reduceIte, Int.reduceEq, Int.reduceLT, Int.reduceLE]
    · have : (128 : Nat) ^ (10 - 0) = 1180591620717411303424 := by decide
      omega
  · rintro k e h' ⟨m, d, o, rv, F', hm, hk, e0, e3, heq, hod, hd, hpow, hs, f⟩
    simp -implicitDefEqProofs (disch := first | decide | assumption | omega | (simp -implicitDefEqProofs only [AM.RN]; first | done | omega) | fail) only [↓AM.R0, AM.R1, AM.R2, Nat.reduceAdd, Nat.reduceLeDiff, Nat.reduceEqDiff, Int.reduceToNat, Nat.reduceLT, ↓reduceIte, Int.reduceEq, Int.reduceLT, Int.reduceLE, e0, e3]
    have t1 : (m : Int).tmod 128 = ((m % 128 : Nat) : Int) := rfl
    have t2 : (m : Int).tdiv 128 = ((m / 128 : Nat) : Int) := rfl
    refine AM.cI_bool (fun hb => ?_) (fun hb => ?_)
    · simp only [decide_eq_true_eq] at hb
      have hm127 : 127 < m := by omega
      have w1 : IntKind.u64.wrap (((m % 128 : Nat) : Int) + 128) = ((m % 128 + 128 : Nat) : Int) := by rw [wrapU64 (by omega) (by omega)]; omega
      have w2 : IntKind.u8.wrap ((m % 128 + 128 : Nat) : Int) = ((m % 128 + 128 : Nat) : Int) := by rw [wrap_eq]; simp only; omega
      have w3 : IntKind.u64.wrap ((m / 128 : Nat) : Int) = ((m / 128 : Nat) : Int) := wrapU64 (by omega) (by omega)
      have hdl : ∃ q, 10 - d = q + 1 := ⟨10 - d - 1, by
        have : 10 - d ≠ 0 := by intro h0; rw [h0] at hpow; simp at hpow; omega
        omega⟩
      obtain ⟨q, hq⟩ := hdl
      simp -implicitDefEqProofs (disch := first | decide | assumption | omega | (simp -implicitDefEqProofs only [AM.RN]; first | done | omega) | fail) only [↓AM.R0, AM.R1, AM.R2, Nat.reduceAdd, Nat.reduceLeDiff, Nat.reduceEqDiff, Int.reduceToNat, Nat.reduceLT, ↓reduceIte, Int.reduceEq, Int.reduceLT, Int.reduceLE, e0, e3, t1, t2, w1, w2]
      refine AM.opI_of (hs.app1 (fun _ => rfl) (fun _ => rfl) (by omega) ((m % 128 + 128 : Nat) : Int) fun v' h'' F'' s'' f'' => ?_)
      simp -implicitDefEqProofs (disch := first | decide | assumption | omega | (simp -implicitDefEqProofs only [AM.RN]; first | done | omega) | fail) only [↓AM.R0, AM.R1, AM.R2, Nat.reduceAdd, Nat.reduceLeDiff, Nat.reduceEqDiff, Int.reduceToNat, Nat.reduceLT, ↓reduceIte, Int.reduceEq, Int.reduceLT, Int.reduceLE, e0, e3, t1, t2, w3]
      refine ⟨m / 128, by omega, m / 128, d + 1, o ++ [((m % 128 + 128 : Nat) : Int)], v', F'', by omega, rfl, rfl, rfl, ?_, by simp [hod], by omega, ?_, s'', f.trans f''⟩
      · rw [heq, wordB_step hm127, List.append_assoc]; rfl
      · rw [show 10 - (d + 1) = q by omega]
        rw [hq, Nat.pow_succ] at hpow
        exact Nat.div_lt_of_lt_mul (by rw [Nat.mul_comm]; exact hpow)
    · simp only [decide_eq_false_iff_not] at hb
      have w1 : IntKind.u8.wrap (m : Int) = (m : Int) := by rw [wrap_eq]; simp only; omega
      simp -implicitDefEqProofs (disch := first | decide | assumption | omega | (simp -implicitDefEqProofs only [AM.RN]; first | done | omega) | fail) only [↓AM.R0, AM.R1, AM.R2, Nat.reduceAdd, Nat.reduceLeDiff, Nat.reduceEqDiff, Int.reduceToNat, Nat.reduceLT, ↓reduceIte, Int.reduceEq, Int.reduceLT, Int.reduceLE, e0, e3, w1]
      refine AM.opI_of (hs.app1 (fun _ => rfl) (fun _ => rfl) (by omega) (m : Int) fun v' h'' F'' s'' f'' => ?_)
      simp -implicitDefEqProofs (disch := first | decide | assumption | omega | (simp -implicitDefEqProofs only [AM.RN]; first | done | omega) | fail) only [↓AM.R0, AM.R1, AM.R2, Nat.reduceAdd, Nat.reduceLeDiff, Nat.reduceEqDiff, Int.reduceToNat, Nat.reduceLT, ↓reduceIte, Int.reduceEq, Int.reduceLT, Int.reduceLE]
      subst hQ
      rw [show wordB n = o ++ [(m : Int)] by rw [heq, wordB, if_neg (by omega)]]
      exact ⟨F'', s'', f.trans f''⟩
end Go.Proofs.Ytfagngiceofoeaa.Cd

namespace Go.Proofs.Ytfagngiceofoeaa.Cd
open Go Go.AM Go.Proofs.Ytfagngiceofoeaa.AmGC
attribute [local irreducible] AM.wp AM.wpIs AM.wpTr AM.opI AM.gI AM.cI AM.trI AM.callI AM.fnI AM.trG AM.trOp AM.trCall AM.seqC AM.loopI
set_option maxRecDepth 100000
set_option linter.unusedVariables false
set_option linter.unusedSimpArgs false

theorem wordB_len10 {n : Nat} (h : n ≤ 18446744073709551615) : (wordB n).length ≤ 10 := by
  have h1 : (128 : Nat) ^ (9 + 1) = 1180591620717411303424 := by decide
  exact wordB_len 9 n (by omega)

/-- The document's writer: its bytes count as long as there is no fault. -/
def RAt (h : AHeap) (w : Nat) (s : WS) (B : Nat) (F : List Nat) : Prop := ∃ out, WAt h w out s.2 F ∧ (s.2 = 0 → out = s.1) ∧ out.length ≤ B

theorem refNumber {h : AHeap} {w : Nat} {s : WS} {B : Nat} {F : List Nat} (H : RAt h w s B F) (n : Int) (hn : n ≤ 9223372036854775807) (hr : B < 1073741824) :
    CallP AP 25 [.ptr w 0 0, .int .i64 n] h fun r h' => ∃ F', HFrame h h' F F' ∧ RAt h' w (wnum s n) (B + 10) F' := by
  obtain ⟨s1, e⟩ := s
  obtain ⟨out, H, hout, hB⟩ := H
  have hl := H.lt
  refine callP (rfl : Tr.get AP 25 = some A25) ?_
  generalize hQ : (fun (r : AVal) (h' : AHeap) => _) = Q
  simp only at H hout
  obtain ⟨ov, Fo, ho, hlt, hs, hw, rfl⟩ := H
  have key : ∀ (e' : Int), HFrame h (h.set w (.cells 0 false [ov, .int .i64 e'])) (w :: Fo) (w :: Fo) := fun e' => HFrame.set h w _ List.mem_cons_self hl
  have w2 : (wnum (s1, e) n).2 = if n < 0 ∨ 65535 < n then (if e = 0 then 1 else e) else e := by unfold wnum; split <;> rfl
  have w1 : ¬ (n < 0 ∨ 65535 < n) → (wnum (s1, e) n).1 = s1 ++ wordB n.toNat := fun hh => by unfold wnum; rw [if_neg hh]; rfl
  refine AM.wp_cut (fun en hB => en.val 0 = .ptr w 0 0 ∧ en.val 1 = .int .i64 n ∧ HFrame h hB (w :: Fo) (w :: Fo) ∧ SlOf hB 1 encB ov out Fo ∧ hB.n = h.n ∧ hB.get w = .cells 0 false [ov, .int .i64 (wnum (s1, e) n).2]) ?_ ?_
  · simp -implicitDefEqProofs (disch := first | decide | assumption | omega | (simp -implicitDefEqProofs only [AM.RN]; first | done | omega) | fail) only [↓AM.R0, AM.R1, AM.R2, Nat.reduceAdd, Nat.reduceLeDiff, Nat.reduceEqDiff, Int.reduceToNat, Nat.reduceLT, ↓reduceIte, Int.reduceEq, Int.reduceLT, Int.reduceLE]
    refine AM.gI_bool (fun hb => ?_) (fun hb => ?_)
    · simp only [decide_eq_true_eq] at hb
      simp -implicitDefEqProofs (disch := first | decide | assumption | omega | (simp -implicitDefEqProofs only [AM.RN]; first | done | omega) | fail) only [↓AM.R0, AM.R1, AM.R2, Nat.reduceAdd, Nat.reduceLeDiff, Nat.reduceEqDiff, Int.reduceToNat, Nat.reduceLT, ↓reduceIte, Int.reduceEq, Int.reduceLT, Int.reduceLE, ho, hb]
      refine AM.cI_bool (fun hc => ?_) (fun hc => ?_)
      · simp only [decide_eq_true_eq] at hc
        simp -implicitDefEqProofs (disch := first | decide | assumption | omega | (simp -implicitDefEqProofs only [AM.RN]; first | done | omega) | fail) only [↓AM.R0, AM.R1, AM.R2, Nat.reduceAdd, Nat.reduceLeDiff, Nat.reduceEqDiff, Int.reduceToNat, Nat.reduceLT, ↓reduceIte, Int.reduceEq, Int.reduceLT, Int.reduceLE, ho]
        exact ⟨key 1, hs.set hw _, by rw [w2, if_pos (.inl hb), if_pos hc]⟩
      · simp only [decide_eq_false_iff_not] at hc
        simp -implicitDefEqProofs (disch := first | decide | assumption | omega | (simp -implicitDefEqProofs only [AM.RN]; first | done | omega) | fail) only [↓AM.R0, AM.R1, AM.R2, Nat.reduceAdd, Nat.reduceLeDiff, Nat.reduceEqDiff, Int.reduceToNat, Nat.reduceLT, ↓reduceIte, Int.reduceEq, Int.reduceLT, Int.reduceLE, ho]
        exact ⟨HFrame.refl hl, hs, by rw [w2, if_pos (.inl hb), if_neg hc]⟩
    · simp only [decide_eq_false_iff_not] at hb
      simp -implicitDefEqProofs (disch := first | decide | assumption | omega | (simp -implicitDefEqProofs only [AM.RN]; first | done | omega) | fail) only [↓AM.R0, AM.R1, AM.R2, Nat.reduceAdd, Nat.reduceLeDiff, Nat.reduceEqDiff, Int.reduceToNat, Nat.reduceLT, ↓reduceIte, Int.reduceEq, Int.reduceLT, Int.reduceLE, ho, hb]
      refine AM.gI_bool (fun hb2 => ?_) (fun hb2 => ?_)
      · simp -implicitDefEqProofs (disch := first | decide | assumption | omega | (simp -implicitDefEqProofs only [AM.RN]; first | done | omega) | fail) only [↓AM.R0, AM.R1, AM.R2, Nat.reduceAdd, Nat.reduceLeDiff, Nat.reduceEqDiff, Int.reduceToNat, Nat.reduceLT, ↓reduceIte, Int.reduceEq, Int.reduceLT, Int.reduceLE, ho, hb2]
        simp only [decide_eq_true_eq] at hb2
        refine AM.cI_bool (fun hc => ?_) (fun hc => ?_)
        · simp only [decide_eq_true_eq] at hc
          simp -implicitDefEqProofs (disch := first | decide | assumption | omega | (simp -implicitDefEqProofs only [AM.RN]; first | done | omega) | fail) only [↓AM.R0, AM.R1, AM.R2, Nat.reduceAdd, Nat.reduceLeDiff, Nat.reduceEqDiff, Int.reduceToNat, Nat.reduceLT, ↓reduceIte, Int.reduceEq, Int.reduceLT, Int.reduceLE, ho]
          exact ⟨key 1, hs.set hw _, by rw [w2, if_pos (.inr hb2), if_pos hc]⟩
        · simp only [decide_eq_false_iff_not] at hc
          simp -implicitDefEqProofs (disch := first | decide | assumption | omega | (simp -implicitDefEqProofs only [AM.RN]; first | done | omega) | fail) only [↓AM.R0, AM.R1, AM.R2, Nat.reduceAdd, Nat.reduceLeDiff, Nat.reduceEqDiff, Int.reduceToNat, Nat.reduceLT, ↓reduceIte, Int.reduceEq, Int.reduceLT, Int.reduceLE, ho]
          exact ⟨HFrame.refl hl, hs, by rw [w2, if_pos (.inr hb2), if_neg hc]⟩
      · simp -implicitDefEqProofs (disch := first | decide | assumption | omega | (simp -implicitDefEqProofs only [AM.RN]; first | done | omega) | fail) only [↓AM.R0, AM.R1, AM.R2, Nat.reduceAdd, Nat.reduceLeDiff, Nat.reduceEqDiff, Int.reduceToNat, Nat.reduceLT, ↓reduceIte, Int.reduceEq, Int.reduceLT, Int.reduceLE, ho, hb2]
        simp only [decide_eq_false_iff_not] at hb2
        exact ⟨HFrame.refl hl, hs, by rw [w2, if_neg (by omega)]⟩
  · rintro en hB ⟨v0, v1, fB, hsB, hnB, hoB⟩
    have hltB : w < hB.n := by omega
    have bo := hsB.beq
    simp -implicitDefEqProofs (disch := first | decide | assumption | omega | (simp -implicitDefEqProofs only [AM.RN]; first | done | omega) | fail) only [↓AM.R0, AM.R1, AM.R2, Nat.reduceAdd, Nat.reduceLeDiff, Nat.reduceEqDiff, Int.reduceToNat, Nat.reduceLT, ↓reduceIte, Int.reduceEq, Int.reduceLT, Int.reduceLE, v0, v1]
    refine AM.cI_bool (fun hb => ?_) (fun hb => ?_)
    · simp only [decide_eq_true_eq] at hb
      have hwn : IntKind.u64.wrap n = ((n.toNat : Nat) : Int) := by rw [wrapU64 (by omega) (by omega)]; omega
      simp -implicitDefEqProofs (disch := first | decide | assumption | omega | (simp -implicitDefEqProofs only [AM.RN]; first | done | omega) | fail) only [↓AM.R0, AM.R1, AM.R2, Nat.reduceAdd, Nat.reduceLeDiff, Nat.reduceEqDiff, Int.reduceToNat, Nat.reduceLT, ↓reduceIte, Int.reduceEq, Int.reduceLT, Int.reduceLE, v0, v1, hoB, hwn]
      refine AM.trCall_of (refWord hB n.toNat (by omega)) ?_
      rintro r h2 ⟨Fl, s2, f2⟩
      have ho2 : h2.get w = _ := (f2.get w hltB (by simp)).trans hoB
      have hlt2 : w < h2.n := Nat.lt_of_lt_of_le hltB f2.n
      have hs2 := hsB.frame f2.n fun j hj => f2.get j (hsB.lt j hj) (by simp)
      have h10 := wordB_len10 (n := n.toNat) (by omega)
      simp -implicitDefEqProofs (disch := first | decide | assumption | omega | (simp -implicitDefEqProofs only [AM.RN]; first | done | omega) | fail) only [↓AM.R0, AM.R1, AM.R2, Nat.reduceAdd, Nat.reduceLeDiff, Nat.reduceEqDiff, Int.reduceToNat, Nat.reduceLT, ↓reduceIte, Int.reduceEq, Int.reduceLT, Int.reduceLE, v0, v1, ho2]
      refine AM.trOp_of (hs2.app s2.rd (fun _ => rfl) (fun _ => rfl) (by omega) fun v' h3 F3 s3 f3 => ?_)
      have ho3 : h3.get w = _ := (f3.get w hlt2 hw).trans ho2
      have hlt3 : w < h3.n := Nat.lt_of_lt_of_le hlt2 f3.n
      obtain ⟨d1, d2⟩ := s3.rd.cells
      have key := WAt.put ho2 hlt2 hw hs2 f3 s3
      simp -implicitDefEqProofs (disch := first | decide | assumption | omega | (simp -implicitDefEqProofs only [AM.RN]; first | done | omega) | fail) only [↓AM.R0, AM.R1, AM.R2, Nat.reduceAdd, Nat.reduceLeDiff, Nat.reduceEqDiff, Int.reduceToNat, Nat.reduceLT, ↓reduceIte, Int.reduceEq, Int.reduceLT, Int.reduceLE, v0, ho3, ho2, hoB, bo, d1, d2]
      subst hQ
      refine ⟨_, (fB.trans (f2.wide (G := w :: Fo) (G' := w :: Fo) (by simp) (fun j hj => .inr hj) (fun j hj => by rw [hnB]; exact hl j hj))).trans key.1, _, key.2, fun he => ?_, ?_⟩
      · simp only [w2] at he
        by_cases hh : n < 0 ∨ 65535 < n
        · rw [if_pos hh] at he
          exfalso
          split at he <;> omega
        · rw [if_neg hh] at he
          rw [w1 hh, hout he]
      · simp only [List.length_append]; omega
    · simp only [decide_eq_false_iff_not] at hb
      simp -implicitDefEqProofs (disch := first | decide | assumption | omega | (simp -implicitDefEqProofs only [AM.RN]; first | done | omega) | fail) only [↓AM.R0, AM.R1, AM.R2, Nat.reduceAdd, Nat.reduceLeDiff, Nat.reduceEqDiff, Int.reduceToNat, Nat.reduceLT, ↓reduceIte, Int.reduceEq, Int.reduceLT, Int.reduceLE]
      subst hQ
      refine ⟨_, fB, _, ⟨ov, Fo, hoB, hltB, hsB, hw, rfl⟩, fun he => ?_, by omega⟩
      simp only [w2] at he
      rw [if_pos (.inl (by omega))] at he
      exfalso
      split at he <;> omega

theorem refCount {h : AHeap} {w : Nat} {s : WS} {B : Nat} {F : List Nat} (H : RAt h w s B F) (n limit : Int) (h0 : 0 ≤ n) (hlim : limit ≤ 65535) (hn : n ≤ 9223372036854775807) (hr : B < 1073741824) :
    CallP AP 24 [.ptr w 0 0, .int .i64 n, .int .i64 limit] h fun r h' => ∃ F', HFrame h h' F F' ∧ RAt h' w (wcount s n limit) (B + 10) F' := by
  refine callP (rfl : Tr.get AP 24 = some A24) ?_
  generalize hQ : (fun (r : AVal) (h' : AHeap) => _) = Q
  have H' := H
  obtain ⟨s1, e⟩ := s
  obtain ⟨out, H, hout, hB⟩ := H
  have hl := H.lt
  simp only at H hout
  obtain ⟨ov, Fo, ho, hlt, hs, hw, rfl⟩ := H
  have key : ∀ (hA : AHeap) (s' : WS), s' = (if limit < n then wfail (s1, e) 16 else (s1, e)) → HFrame h hA (w :: Fo) (w :: Fo) → RAt hA w s' B (w :: Fo) →
      CallP AP 25 [.ptr w 0 0, .int .i64 n] hA fun r h' => ∃ F', HFrame h h' (w :: Fo) F' ∧ RAt h' w (wcount (s1, e) n limit) (B + 10) F' := by
    intro hA s' hs' fA HA
    subst hs'
    refine (refNumber HA n hn hr).mono ?_
    rintro r h' ⟨F', f, q⟩
    refine ⟨F', fA.trans f, ?_⟩
    unfold wcount
    by_cases hle : n ≤ 65535
    · rw [Int.min_eq_left hle]; exact q
    · rw [if_pos (by omega)] at q ⊢
      obtain ⟨o2, q1, q2, q3⟩ := q
      have e1 : (wnum (wfail (s1, e) 16) n).2 = (wfail (s1, e) 16).2 := by
        unfold wnum; rw [if_pos (.inr (by omega))]
        unfold wfail; simp only; split <;> simp_all
      have e2 : (wnum (wfail (s1, e) 16) (min n 65535)).2 = (wfail (s1, e) 16).2 := by
        unfold wnum; rw [if_neg (by omega)]; rfl
      have e3 : (wfail (s1, e) 16).2 ≠ 0 := by unfold wfail; simp only; split <;> simp_all
      exact ⟨o2, by rw [e2, ← e1]; exact q1, fun hz => absurd (e2 ▸ hz) e3, q3⟩
  simp -implicitDefEqProofs (disch := first | decide | assumption | omega | (simp -implicitDefEqProofs only [AM.RN]; first | done | omega) | fail) only [↓AM.R0, AM.R1, AM.R2, Nat.reduceAdd, Nat.reduceLeDiff, Nat.reduceEqDiff, Int.reduceToNat, Nat.reduceLT, ↓reduceIte, Int.reduceEq, Int.reduceLT, Int.reduceLE, ho]
  refine AM.gI_bool (fun hb => ?_) (fun hb => ?_)
  · simp -implicitDefEqProofs (disch := first | decide | assumption | omega | (simp -implicitDefEqProofs only [AM.RN]; first | done | omega) | fail) only [↓AM.R0, AM.R1, AM.R2, Nat.reduceAdd, Nat.reduceLeDiff, Nat.reduceEqDiff, Int.reduceToNat, Nat.reduceLT, ↓reduceIte, Int.reduceEq, Int.reduceLT, Int.reduceLE, ho, hb]
    simp only [decide_eq_true_eq] at hb
    refine AM.cI_bool (fun hc => ?_) (fun hc => ?_)
    · simp only [decide_eq_true_eq] at hc
      simp -implicitDefEqProofs (disch := first | decide | assumption | omega | (simp -implicitDefEqProofs only [AM.RN]; first | done | omega) | fail) only [↓AM.R0, AM.R1, AM.R2, Nat.reduceAdd, Nat.reduceLeDiff, Nat.reduceEqDiff, Int.reduceToNat, Nat.reduceLT, ↓reduceIte, Int.reduceEq, Int.reduceLT, Int.reduceLE, ho]
      refine AM.callI_of (key _ (s1, 16) (by rw [if_pos hb]; unfold wfail; simp only; rw [if_pos hc]) (HFrame.set h w _ List.mem_cons_self hl) ⟨out, ⟨ov, Fo, AHeap.get_set_same _ _ _, by simpa using hlt, hs.set hw _, hw, rfl⟩, fun hz => by simp at hz, hB⟩) ?_
      rintro r h' ⟨F', f, q⟩
      simp -implicitDefEqProofs (disch := first | decide | assumption | omega | (simp -implicitDefEqProofs only [AM.RN]; first | done | omega) | fail) only [↓AM.R0, AM.R1, AM.R2, Nat.reduceAdd, Nat.reduceLeDiff, Nat.reduceEqDiff, Int.reduceToNat, Nat.reduceLT, ↓reduceIte, Int.reduceEq, Int.reduceLT, Int.reduceLE]
      subst hQ
      exact ⟨F', f, q⟩
    · simp only [decide_eq_false_iff_not] at hc
      simp -implicitDefEqProofs (disch := first | decide | assumption | omega | (simp -implicitDefEqProofs only [AM.RN]; first | done | omega) | fail) only [↓AM.R0, AM.R1, AM.R2, Nat.reduceAdd, Nat.reduceLeDiff, Nat.reduceEqDiff, Int.reduceToNat, Nat.reduceLT, ↓reduceIte, Int.reduceEq, Int.reduceLT, Int.reduceLE, ho]
      refine AM.callI_of (key _ (s1, e) (by rw [if_pos hb]; unfold wfail; simp only; rw [if_neg hc]) (HFrame.refl hl) H') ?_
      rintro r h' ⟨F', f, q⟩
      simp -implicitDefEqProofs (disch := first | decide | assumption | omega | (simp -implicitDefEqProofs only [AM.RN]; first | done | omega) | fail) only [↓AM.R0, AM.R1, AM.R2, Nat.reduceAdd, Nat.reduceLeDiff, Nat.reduceEqDiff, Int.reduceToNat, Nat.reduceLT, ↓reduceIte, Int.reduceEq, Int.reduceLT, Int.reduceLE]
      subst hQ
      exact ⟨F', f, q⟩
  · simp -implicitDefEqProofs (disch := first | decide | assumption | omega | (simp -implicitDefEqProofs only [AM.RN]; first | done | omega) | fail) only [↓AM.R0, AM.R1, AM.R2, Nat.reduceAdd, Nat.reduceLeDiff, Nat.reduceEqDiff, Int.reduceToNat, Nat.reduceLT, ↓reduceIte, Int.reduceEq, Int.reduceLT, Int.reduceLE, ho, hb]
    simp only [decide_eq_false_iff_not] at hb
    refine AM.callI_of (key _ (s1, e) (by rw [if_neg hb]) (HFrame.refl hl) H') ?_
    rintro r h' ⟨F', f, q⟩
    simp -implicitDefEqProofs (disch := first | decide | assumption | omega | (simp -implicitDefEqProofs only [AM.RN]; first | done | omega) | fail) only [↓AM.R0, AM.R1, AM.R2, Nat.reduceAdd, Nat.reduceLeDiff, Nat.reduceEqDiff, Int.reduceToNat, Nat.reduceLT, ↓reduceIte, Int.reduceEq, Int.reduceLT, Int.reduceLE]
    subst hQ
    exact ⟨F', f, q⟩

/-- The document's kinds. -/
theorem refKindsG {h0 h : AHeap} {w : Nat} {s : WS} {B : Nat} {A F : List Nat} (f0 : HFrame h0 h A F) (H : RAt h w s B F) {v : AVal} {l : List Int} (hd : ∀ {h' : AHeap} {F' : List Nat}, HFrame h0 h' A F' → SlIn h' 1 encK v l) (hl2 : ∀ a, a ∈ l → a ≤ 9223372036854775807) (limit : Int) (hlim : limit ≤ 65535) (hr : B + 10 * l.length + 10 < 1073741824) :
    CallP AP 26 [.ptr w 0 0, v, .int .i64 limit] h fun r h' => ∃ F', HFrame h0 h' A F' ∧ RAt h' w (wkinds s l limit) (B + 10 + 10 * l.length) F' := by
  refine callP (rfl : Tr.get AP 26 = some A26) ?_
  generalize hQ : (fun (r : AVal) (h' : AHeap) => _) = Q
  have hl := (hd f0).len
  simp -implicitDefEqProofs (disch := first | decide | assumption | omega | (simp -implicitDefEqProofs only [AM.RN]; first | done | omega) | fail) only [↓AM.R0, AM.R1, AM.R2, Nat.reduceAdd, Nat.reduceLeDiff, Nat.reduceEqDiff, Int.reduceToNat, Nat.reduceLT, ↓reduceIte, Int.reduceEq, Int.reduceLT, Int.reduceLE, hl]
  refine AM.callI_of (refCount H l.length limit (by omega) hlim (by omega) (by omega)) ?_
  rintro r h1 ⟨F1, f1, q1⟩
  simp -implicitDefEqProofs (disch := first | decide | assumption | omega | (simp -implicitDefEqProofs only [AM.RN]; first | done | omega) | fail) only [↓AM.R0, AM.R1, AM.R2, Nat.reduceAdd, Nat.reduceLeDiff, Nat.reduceEqDiff, Int.reduceToNat, Nat.reduceLT, ↓reduceIte, Int.reduceEq, Int.reduceLT, Int.reduceLE, hl]
  refine AM.loopI_of (fun k e h' => ∃ (i : Nat) (F' : List Nat), k + i = l.length ∧ e.val 0 = .ptr w 0 0 ∧ e.val 1 = v ∧ e.val 6 = .int .i64 i ∧ HFrame h0 h' A F' ∧
    RAt h' w ((l.take i).foldl wnum (wcount s l.length limit)) (B + 10 + 10 * i) F') l.length ?_ ?_
  · refine ⟨0, F1, by simp, ?_, ?_, ?_, f0.trans f1, q1⟩ <;> simp -implicitDefEqProofs (disch := first | decide | assumption | omega | (simp -implicitDefEqProofs only [AM.RN]; first | done | omega) | fail) only [↓AM.R0, AM.R1, AM.R2, Nat.reduceAdd, Nat.reduceLeDiff, Nat.reduceEqDiff, Int.reduceToNat, Nat.reduceLT, ↓reduceIte, Int.reduceEq, Int.reduceLT, Int.reduceLE] <;> rfl
  · rintro k e h' ⟨i, F', hk, e0, e1, e6, f, q⟩
    simp -implicitDefEqProofs (disch := first | decide | assumption | omega | (simp -implicitDefEqProofs only [AM.RN]; first | done | omega) | fail) only [↓AM.R0, AM.R1, AM.R2, Nat.reduceAdd, Nat.reduceLeDiff, Nat.reduceEqDiff, Int.reduceToNat, Nat.reduceLT, ↓reduceIte, Int.reduceEq, Int.reduceLT, Int.reduceLE, e0, e1, e6, hl]
    refine AM.cI_bool (fun hb => ?_) (fun hb => ?_)
    · simp only [decide_eq_true_eq] at hb
      obtain ⟨a, ha⟩ : ∃ a, l[i]? = some a := ⟨_, List.getElem?_eq_getElem (by omega)⟩
      obtain ⟨j, g, off, vs, ro, x1, x2, x3, x5⟩ := ((hd f).rd ha).ix1 (enc := fun n => .int .i64 n) ha .i64
      have hw : IntKind.i64.wrap ((i : Int) + 1) = ((i + 1 : Nat) : Int) := wrap64 (by omega) (by omega)
      simp -implicitDefEqProofs (disch := first | decide | assumption | omega | (simp -implicitDefEqProofs only [AM.RN]; first | done | omega) | fail) only [↓AM.R0, AM.R1, AM.R2, Nat.reduceAdd, Nat.reduceLeDiff, Nat.reduceEqDiff, Int.reduceToNat, Nat.reduceLT, ↓reduceIte, Int.reduceEq, Int.reduceLT, Int.reduceLE, e0, e1, e6, x1, x2, x5]
      refine AM.callI_of (refNumber q a (hl2 a (List.mem_of_getElem? ha)) (by omega)) ?_
      rintro r h2 ⟨F2, f2, q2⟩
      simp -implicitDefEqProofs (disch := first | decide | assumption | omega | (simp -implicitDefEqProofs only [AM.RN]; first | done | omega) | fail) only [↓AM.R0, AM.R1, AM.R2, Nat.reduceAdd, Nat.reduceLeDiff, Nat.reduceEqDiff, Int.reduceToNat, Nat.reduceLT, ↓reduceIte, Int.reduceEq, Int.reduceLT, Int.reduceLE, e0, e1, e6, hw]
      refine ⟨l.length - (i + 1), by omega, i + 1, F2, by omega, rfl, f.trans f2, ?_⟩
      rw [take_succ_of ha, List.foldl_append, Nat.mul_add]
      exact q2
    · simp only [decide_eq_false_iff_not] at hb
      have : i = l.length := by omega
      subst this
      rw [List.take_length] at q
      simp -implicitDefEqProofs (disch := first | decide | assumption | omega | (simp -implicitDefEqProofs only [AM.RN]; first | done | omega) | fail) only [↓AM.R0, AM.R1, AM.R2, Nat.reduceAdd, Nat.reduceLeDiff, Nat.reduceEqDiff, Int.reduceToNat, Nat.reduceLT, ↓reduceIte, Int.reduceEq, Int.reduceLT, Int.reduceLE]
      subst hQ
      exact ⟨F', f, q⟩
theorem refKinds {h0 h : AHeap} {w : Nat} {s : WS} {B : Nat} {F : List Nat} (f0 : HFrame h0 h [] F) (H : RAt h w s B F) {v : AVal} {l : List Int} (L0 : SlIn h0 1 encK v l) (hl2 : ∀ a, a ∈ l → a ≤ 9223372036854775807) (limit : Int) (hlim : limit ≤ 65535) (hr : B + 10 * l.length + 10 < 1073741824) :
    CallP AP 26 [.ptr w 0 0, v, .int .i64 limit] h fun r h' => ∃ F', HFrame h0 h' [] F' ∧ RAt h' w (wkinds s l limit) (B + 10 + 10 * l.length) F' :=
  refKindsG f0 H (fun f => L0.keep f) hl2 limit hlim hr
end Go.Proofs.Ytfagngiceofoeaa.Cd

namespace Go.Proofs.Ytfagngiceofoeaa.Cd
open Go Go.AM Go.Proofs.Ytfagngiceofoeaa.AmGC
attribute [local irreducible] AM.wp AM.wpIs AM.wpTr AM.opI AM.gI AM.cI AM.trI AM.callI AM.fnI AM.trG AM.trOp AM.trCall AM.seqC AM.loopI
set_option maxRecDepth 100000
set_option linter.unusedVariables false
set_option linter.unusedSimpArgs false

abbrev mx : Int := 9223372036854775807
structure PIns.Ok (i : PIns) : Prop where
  op : i.op ≤ mx
  a : i.a ≤ mx
  b : i.b ≤ mx
  c : i.c ≤ mx
  imm : i.imm ≤ 18446744073709551615
  list : ∀ x, x ∈ i.list → x ≤ mx
structure PFunc.Ok (f : PFunc) : Prop where
  params : f.params ≤ mx
  slots : ∀ x, x ∈ f.slots → x ≤ mx
  results : ∀ x, x ∈ f.results → x ≤ mx
  code : ∀ x, x ∈ f.code → x.Ok
structure PProg.Ok (p : PProg) : Prop where
  types : ∀ t, t ∈ p.types → ∀ x, x ∈ t.2 → x ≤ mx
  globals : ∀ x, x ∈ p.globals → x ≤ mx
  funcs : ∀ f, f ∈ p.funcs → f.Ok

theorem loc {h1 h' : AHeap} {F F' : List Nat} {L : Nat} {o : AObj} (f : HFrame h1 h' F F') (g : h1.get L = o) (hl : L < h1.n) (hF : L ∉ F) : h'.get L = o ∧ L < h'.n :=
  ⟨(f.get L hl hF).trans g, Nat.lt_of_lt_of_le hl f.n⟩

theorem RAt.lt {h : AHeap} {w : Nat} {s : WS} {B : Nat} {F : List Nat} (H : RAt h w s B F) : ∀ j, j ∈ F → j < h.n := by
  obtain ⟨_, q, _⟩ := H; exact q.lt
theorem RAt.frame {h h' : AHeap} {w : Nat} {s : WS} {B : Nat} {F : List Nat} (H : RAt h w s B F) (hn : h.n ≤ h'.n) (k : ∀ j, j ∈ F → h'.get j = h.get j) : RAt h' w s B F := by
  obtain ⟨o, q, a, b⟩ := H; exact ⟨o, q.frame hn k, a, b⟩
theorem RAt.tmp {h : AHeap} {w : Nat} {s : WS} {B : Nat} {F : List Nat} (H : RAt h w s B F) (o : AObj) : RAt (h.push o) w s B F :=
  H.frame (by simp) fun j hj => AHeap.get_push_ne _ _ (by have := H.lt j hj; omega)

set_option maxHeartbeats 1000000 in
theorem refInsG {h0 h : AHeap} {w : Nat} {s : WS} {B : Nat} {A F : List Nat} (f0 : HFrame h0 h A F) (H : RAt h w s B F) {i : PIns} {row : List AVal} (hd : ∀ {h' : AHeap} {F' : List Nat}, HFrame h0 h' A F' → InsR h' i row) (ok : i.Ok) (hr : B + 10 * i.list.length + 70 < 1073741824) :
    CallP AP 27 [.ptr w 0 0, .agg row] h fun r h' => ∃ F', HFrame h0 h' A F' ∧ RAt h' w (winsP s i) (B + 60 + 10 * i.list.length) F' := by
  obtain ⟨_, v, rfl, L0⟩ := hd f0
  have hd' : ∀ {h' : AHeap} {F' : List Nat}, HFrame h0 h' A F' → SlIn h' 1 encK v i.list := fun f => by
    obtain ⟨_, v', e, q⟩ := hd f
    cases e
    exact q
  have hvc := SlIn.cellv L0
  refine callP (rfl : Tr.get AP 27 = some A27) ?_
  generalize hQ : (fun (r : AVal) (h' : AHeap) => _) = Q
  have hl := L0.len
  have hlF := H.lt
  simp -implicitDefEqProofs (disch := first | decide | assumption | omega | (simp -implicitDefEqProofs only [AM.RN]; first | done | omega) | fail) only [↓AM.R0, AM.R1, AM.R2, Nat.reduceAdd, Nat.reduceLeDiff, Nat.reduceEqDiff, Int.reduceToNat, Nat.reduceLT, ↓reduceIte, Int.reduceEq, Int.reduceLT, Int.reduceLE, hvc]
  have qB := H.tmp (.cells 0 false [.int .i64 i.op, .int .i64 i.a, .int .i64 i.b, .int .i64 i.c, .int .u64 i.imm, v])
  have fB := f0.pushTmp (.cells 0 false [.int .i64 i.op, .int .i64 i.a, .int .i64 i.b, .int .i64 i.c, .int .u64 i.imm, v])
  have gB := AHeap.get_push_same h (.cells 0 false [.int .i64 i.op, .int .i64 i.a, .int .i64 i.b, .int .i64 i.c, .int .u64 i.imm, v])
  have nB : h.n < (h.push (.cells 0 false [.int .i64 i.op, .int .i64 i.a, .int .i64 i.b, .int .i64 i.c, .int .u64 i.imm, v])).n := by simp
  have hnF : h.n ∉ F := fun hm => Nat.lt_irrefl _ (hlF _ hm)
  generalize h.push (.cells 0 false [.int .i64 i.op, .int .i64 i.a, .int .i64 i.b, .int .i64 i.c, .int .u64 i.imm, v]) = hB at *
  refine AM.callI_of (refNumber qB i.op ok.op (by omega)) ?_
  rintro r h1 ⟨F1, f1, q1⟩
  obtain ⟨g1, n1⟩ := loc f1 gB nB hnF
  simp -implicitDefEqProofs (disch := first | decide | assumption | omega | (simp -implicitDefEqProofs only [AM.RN]; first | done | omega) | fail) only [↓AM.R0, AM.R1, AM.R2, Nat.reduceAdd, Nat.reduceLeDiff, Nat.reduceEqDiff, Int.reduceToNat, Nat.reduceLT, ↓reduceIte, Int.reduceEq, Int.reduceLT, Int.reduceLE, g1]
  refine AM.callI_of (refNumber q1 i.a ok.a (by omega)) ?_
  rintro r h2 ⟨F2, f2, q2⟩
  have f12 := f1.trans f2
  obtain ⟨g2, n2⟩ := loc f12 gB nB hnF
  simp -implicitDefEqProofs (disch := first | decide | assumption | omega | (simp -implicitDefEqProofs only [AM.RN]; first | done | omega) | fail) only [↓AM.R0, AM.R1, AM.R2, Nat.reduceAdd, Nat.reduceLeDiff, Nat.reduceEqDiff, Int.reduceToNat, Nat.reduceLT, ↓reduceIte, Int.reduceEq, Int.reduceLT, Int.reduceLE, g2]
  refine AM.callI_of (refNumber q2 i.b ok.b (by omega)) ?_
  rintro r h3 ⟨F3, f3, q3⟩
  have f13 := f12.trans f3
  obtain ⟨g3, n3⟩ := loc f13 gB nB hnF
  simp -implicitDefEqProofs (disch := first | decide | assumption | omega | (simp -implicitDefEqProofs only [AM.RN]; first | done | omega) | fail) only [↓AM.R0, AM.R1, AM.R2, Nat.reduceAdd, Nat.reduceLeDiff, Nat.reduceEqDiff, Int.reduceToNat, Nat.reduceLT, ↓reduceIte, Int.reduceEq, Int.reduceLT, Int.reduceLE, g3]
  refine AM.callI_of (refNumber q3 i.c ok.c (by omega)) ?_
  rintro r h4 ⟨F4, f4, q4⟩
  have f14 := f13.trans f4
  obtain ⟨g4, n4⟩ := loc f14 gB nB hnF
  have q4' := q4
  obtain ⟨s4, hs4⟩ : ∃ s4, s4 = wnum (wnum (wnum (wnum s i.op) i.a) i.b) i.c := ⟨_, rfl⟩
  rw [← hs4] at q4 q4'
  obtain ⟨out, q4, hout, hB4⟩ := q4
  obtain ⟨ov, Fo, ho, hlt, hs, hw, rfl⟩ := q4
  have bo := hs.beq
  have hwn : h.n ≠ w := fun e => (f14.out hnF nB) (by rw [e]; exact List.mem_cons_self)
  simp -implicitDefEqProofs (disch := first | decide | assumption | omega | (simp -implicitDefEqProofs only [AM.RN]; first | done | omega) | fail) only [↓AM.R0, AM.R1, AM.R2, Nat.reduceAdd, Nat.reduceLeDiff, Nat.reduceEqDiff, Int.reduceToNat, Nat.reduceLT, ↓reduceIte, Int.reduceEq, Int.reduceLT, Int.reduceLE, g4, ho]
  refine AM.trCall_of (refWord h4 i.imm ok.imm) ?_
  rintro r h5 ⟨Fl, s5, f5⟩
  have ho5 : h5.get w = _ := (f5.get w hlt (by simp)).trans ho
  have hlt5 : w < h5.n := Nat.lt_of_lt_of_le hlt f5.n
  have hs5 := hs.frame f5.n fun j hj => f5.get j (hs.lt j hj) (by simp)
  have h10 := wordB_len10 ok.imm
  have g5 : h5.get h.n = _ := (f5.get h.n n4 (by simp)).trans g4
  have n5 : h.n < h5.n := Nat.lt_of_lt_of_le n4 f5.n
  simp -implicitDefEqProofs (disch := first | decide | assumption | omega | (simp -implicitDefEqProofs only [AM.RN]; first | done | omega) | fail) only [↓AM.R0, AM.R1, AM.R2, Nat.reduceAdd, Nat.reduceLeDiff, Nat.reduceEqDiff, Int.reduceToNat, Nat.reduceLT, ↓reduceIte, Int.reduceEq, Int.reduceLT, Int.reduceLE, ho5]
  refine AM.trOp_of (hs5.app s5.rd (fun _ => rfl) (fun _ => rfl) (by omega) fun v' h6 F6 s6 f6 => ?_)
  have ho6 : h6.get w = _ := (f6.get w hlt5 hw).trans ho5
  have hlt6 : w < h6.n := Nat.lt_of_lt_of_le hlt5 f6.n
  obtain ⟨d1, d2⟩ := s6.rd.cells
  have key := WAt.put ho5 hlt5 hw hs5 f6 s6
  have f45 := f5.wide (G := w :: Fo) (G' := w :: Fo) (by simp) (fun j hj => .inr hj) (q4'.lt)
  have f16 := (f14.trans f45).trans key.1
  obtain ⟨g6, n6⟩ := loc f16 gB nB hnF
  have g6' : h6.get h.n = _ := (f6.get h.n n5 (fun hm => (f14.out hnF nB) (List.mem_cons_of_mem _ hm))).trans g5
  have n6' : h.n < h6.n := Nat.lt_of_lt_of_le n5 f6.n
  simp -implicitDefEqProofs (disch := first | decide | assumption | omega | (simp -implicitDefEqProofs only [AM.RN]; first | done | omega) | fail) only [↓AM.R0, AM.R1, AM.R2, Nat.reduceAdd, Nat.reduceLeDiff, Nat.reduceEqDiff, Int.reduceToNat, Nat.reduceLT, ↓reduceIte, Int.reduceEq, Int.reduceLT, Int.reduceLE, ho6, ho5, ho, bo, d1, d2, g6', hl]
  have q6 : RAt (h6.set w (.cells 0 false [v', .int .i64 s4.2])) w (wword s4 i.imm) (B + 50) (w :: F6) := ⟨_, key.2, fun he => by rw [hout he]; rfl, by simp only [List.length_append]; omega⟩
  generalize h6.set w (.cells 0 false [v', .int .i64 s4.2]) = h7 at *
  refine AM.callI_of (refCount q6 i.list.length 24 (by omega) (by omega) (by omega) (by omega)) ?_
  rintro r h8 ⟨F8, f8, q8⟩
  have f18 := f16.trans f8
  obtain ⟨g8, n8⟩ := loc f18 gB nB hnF
  simp -implicitDefEqProofs (disch := first | decide | assumption | omega | (simp -implicitDefEqProofs only [AM.RN]; first | done | omega) | fail) only [↓AM.R0, AM.R1, AM.R2, Nat.reduceAdd, Nat.reduceLeDiff, Nat.reduceEqDiff, Int.reduceToNat, Nat.reduceLT, ↓reduceIte, Int.reduceEq, Int.reduceLT, Int.reduceLE, g8, hl]
  refine AM.loopI_of (fun k e h' => ∃ (x : Nat) (F' : List Nat), k + x = i.list.length ∧ e.val 0 = .ptr w 0 0 ∧ e.val 3 = .ptr h.n 0 0 ∧ e.val 4 = .int .i64 x ∧ HFrame hB h' F F' ∧
    RAt h' w ((i.list.take x).foldl wnum (wcount (wword s4 i.imm) i.list.length 24)) (B + 60 + 10 * x) F') i.list.length ?_ ?_
  · refine ⟨0, F8, by simp, ?_, ?_, ?_, f18, q8⟩ <;> simp -implicitDefEqProofs (disch := first | decide | assumption | omega | (simp -implicitDefEqProofs only [AM.RN]; first | done | omega) | fail) only [↓AM.R0, AM.R1, AM.R2, Nat.reduceAdd, Nat.reduceLeDiff, Nat.reduceEqDiff, Int.reduceToNat, Nat.reduceLT, ↓reduceIte, Int.reduceEq, Int.reduceLT, Int.reduceLE] <;> rfl
  · rintro k e h' ⟨x, F', hk, e0, e3, e4, f, q⟩
    obtain ⟨g, nx⟩ := loc f gB nB hnF
    simp -implicitDefEqProofs (disch := first | decide | assumption | omega | (simp -implicitDefEqProofs only [AM.RN]; first | done | omega) | fail) only [↓AM.R0, AM.R1, AM.R2, Nat.reduceAdd, Nat.reduceLeDiff, Nat.reduceEqDiff, Int.reduceToNat, Nat.reduceLT, ↓reduceIte, Int.reduceEq, Int.reduceLT, Int.reduceLE, e0, e3, e4, hl, g]
    have ff := fB.trans f
    refine AM.cI_bool (fun hb => ?_) (fun hb => ?_)
    · simp only [decide_eq_true_eq] at hb
      obtain ⟨a, ha⟩ : ∃ a, i.list[x]? = some a := ⟨_, List.getElem?_eq_getElem (by omega)⟩
      obtain ⟨j, g', off, vs, ro, x1, x2, x3, x5⟩ := ((hd' ff).rd ha).ix1 (enc := fun n => .int .i64 n) ha .i64
      have hw : IntKind.i64.wrap ((x : Int) + 1) = ((x + 1 : Nat) : Int) := wrap64 (by omega) (by omega)
      simp -implicitDefEqProofs (disch := first | decide | assumption | omega | (simp -implicitDefEqProofs only [AM.RN]; first | done | omega) | fail) only [↓AM.R0, AM.R1, AM.R2, Nat.reduceAdd, Nat.reduceLeDiff, Nat.reduceEqDiff, Int.reduceToNat, Nat.reduceLT, ↓reduceIte, Int.reduceEq, Int.reduceLT, Int.reduceLE, e0, e3, e4, g, x1, x2, x5]
      refine AM.callI_of (refNumber q a (ok.list a (List.mem_of_getElem? ha)) (by omega)) ?_
      rintro r h2 ⟨F2, f2, q2⟩
      simp -implicitDefEqProofs (disch := first | decide | assumption | omega | (simp -implicitDefEqProofs only [AM.RN]; first | done | omega) | fail) only [↓AM.R0, AM.R1, AM.R2, Nat.reduceAdd, Nat.reduceLeDiff, Nat.reduceEqDiff, Int.reduceToNat, Nat.reduceLT, ↓reduceIte, Int.reduceEq, Int.reduceLT, Int.reduceLE, e0, e3, e4, hw]
      refine ⟨i.list.length - (x + 1), by omega, x + 1, F2, by omega, rfl, f.trans f2, ?_⟩
      rw [take_succ_of ha, List.foldl_append, Nat.mul_add]
      exact q2
    · simp only [decide_eq_false_iff_not] at hb
      have : x = i.list.length := by omega
      subst this
      rw [List.take_length] at q
      simp -implicitDefEqProofs (disch := first | decide | assumption | omega | (simp -implicitDefEqProofs only [AM.RN]; first | done | omega) | fail) only [↓AM.R0, AM.R1, AM.R2, Nat.reduceAdd, Nat.reduceLeDiff, Nat.reduceEqDiff, Int.reduceToNat, Nat.reduceLT, ↓reduceIte, Int.reduceEq, Int.reduceLT, Int.reduceLE]
      subst hQ
      subst hs4
      exact ⟨F', ff, q⟩
theorem refIns {h0 h : AHeap} {w : Nat} {s : WS} {B : Nat} {F : List Nat} (f0 : HFrame h0 h [] F) (H : RAt h w s B F) {i : PIns} {row : List AVal} (R : InsR h0 i row) (ok : i.Ok) (hr : B + 10 * i.list.length + 70 < 1073741824) :
    CallP AP 27 [.ptr w 0 0, .agg row] h fun r h' => ∃ F', HFrame h0 h' [] F' ∧ RAt h' w (winsP s i) (B + 60 + 10 * i.list.length) F' :=
  refInsG f0 H (fun f => InsR.mono f.n (fun j hj => f.get j hj (by simp)) R) ok hr
end Go.Proofs.Ytfagngiceofoeaa.Cd

namespace Go.Proofs.Ytfagngiceofoeaa.Cd
open Go Go.AM Go.Proofs.Ytfagngiceofoeaa.AmGC
attribute [local irreducible] AM.wp AM.wpIs AM.wpTr AM.opI AM.gI AM.cI AM.trI AM.callI AM.fnI AM.trG AM.trOp AM.trCall AM.seqC AM.loopI AM.wx AM.wxIs AM.wxTr AM.opX AM.gX AM.cX AM.callXI AM.fnX AM.panX AM.loopX AM.seqX AM.txI AM.txOp AM.txG AM.txFn AM.txCall
set_option maxRecDepth 100000
set_option linter.unusedVariables false
set_option linter.unusedSimpArgs false

/-- What reading comes to: what was read and the place behind it; or the fault and its place. -/
inductive PR (α : Type) where
  | ok (a : α) (n : Nat)
  | bad (e : Int) (n : Nat)
def PR.bind {α β : Type} : PR α → (α → Nat → PR β) → PR β
  | .ok a n, f => f a n
  | .bad e n, _ => .bad e n
def wordR (fr : Nat) : List Int → Nat → Nat → Nat → PR Nat
  | [], _, _, _ => .bad 7 fr
  | b :: l, q, i, n => if (i = 9 ∧ 1 < b) ∨ (0 < i ∧ b = 0) then .bad 8 fr else
    if b < 128 then .ok (n + b.toNat % 128 * 2 ^ (7 * i)) (q + 1) else wordR fr l (q + 1) (i + 1) (n + b.toNat % 128 * 2 ^ (7 * i))
def pword (t : List Int) (p : Nat) : PR Nat := wordR p (t.drop p) p 0 0
def pnum (t : List Int) (lim : Nat) (e : Int) (p : Nat) : PR Nat := (pword t p).bind fun n q => if lim < n then .bad e p else .ok n q
def plist {α : Type} (f : Nat → PR α) : Nat → Nat → PR (List α)
  | 0, p => .ok [] p
  | c + 1, p => (f p).bind fun a p => (plist f c p).bind fun l p => .ok (a :: l) p

structure RdOk (h : AHeap) (r : Nat) (v : AVal) (t : List Int) (p : Nat) : Prop where
  get : h.get r = .cells 0 false [v, .int .i64 p]
  lt : r < h.n
  txt : SlIn (h.masks [r]) 1 encB v t
  le : p ≤ t.length
  size : t.length ≤ 16384
  byte : ∀ b, b ∈ t → 0 ≤ b ∧ b ≤ 255
theorem RdOk.next {h h' : AHeap} {r : Nat} {v : AVal} {t : List Int} {p p' : Nat} (H : RdOk h r v t p) (f : HFrame h h' [r] [r]) (g : h'.get r = .cells 0 false [v, .int .i64 p']) (le : p' ≤ t.length) : RdOk h' r v t p' :=
  ⟨g, Nat.lt_of_lt_of_le H.lt f.n, H.txt.mono (f.masks fun _ h => h).1 (f.masks fun _ h => h).2, le, H.size, H.byte⟩
def fltV (e : Int) (p : Nat) : AVal := .iface 74 (.agg [.int .i64 e, .int .i64 (-1), .int .i64 p])
/-- What a reading call answers. -/
def RP (h : AHeap) (r : Nat) (v : AVal) (L : Nat) {α : Type} (R : AVal → AHeap → α → Prop) : PR α → ARes → AHeap → Prop
  | .ok a p, res, h' => ∃ x, res = .ret x ∧ HFrame h h' [r] [r] ∧ h'.get r = .cells 0 false [v, .int .i64 p] ∧ p ≤ L ∧ R x h' a
  | .bad e p, res, h' => res = .panic (fltV e p) ∧ HFrame h h' [r] [r]

theorem failX (h : AHeap) (e : Int) (p : Nat) : CallX AP 42 [.int .i64 e, .int .i64 p] h fun res h' => res = .panic (fltV e p) ∧ h' = h := by
  refine callX (rfl : Tr.get AP 42 = some A42) ?_
  generalize hQ : (fun (r : ARes) (h' : AHeap) => _) = Q
  simp -implicitDefEqProofs (disch := first | decide | assumption | omega | (simp -implicitDefEqProofs only [AM.RN]; first | done | omega) | fail) only [↓AM.RX, AM.tx_short, ↓AM.R0, AM.R1, AM.R2, Nat.reduceAdd, Nat.reduceLeDiff, Nat.reduceEqDiff, Int.reduceToNat, Nat.reduceLT, ↓reduceIte, Int.reduceEq, Int.reduceLT, Int.reduceLE]
  subst hQ
  exact ⟨rfl, rfl⟩

theorem rdrop {t : List Int} {q : Nat} {b : Int} (hb : t[q]? = some b) : t.drop q = b :: t.drop (q + 1) := by
  obtain ⟨h1, h2⟩ := List.getElem?_eq_some_iff.1 hb
  rw [List.drop_eq_getElem_cons h1, h2]

theorem and127 (h : AHeap) (b : Int) (h1 : 0 ≤ b) (h2 : b ≤ 255) : binV h .and (.int .u8 b) (.int .u8 127) = some (.int .u8 ((b.toNat % 128 : Nat) : Int), h) := by
  have k8 : kMax .u8 = 255 := rfl
  rw [AM.bin_and h .u8 b 127 h1 (by rw [k8]; omega) (by omega) (by rw [k8]; omega)]
  show some (AVal.int .u8 (((b.toNat &&& 127 : Nat)) : Int), h) = _
  rw [Nat.and_two_pow_sub_one_eq_mod b.toNat 7]
theorem shlU (h : AHeap) (x i : Nat) (hi : i ≤ 9) (hx : x * 2 ^ (7 * i) < 18446744073709551616) : binV h .shl (.int .u64 x) (.int .i64 ((7 * i : Nat) : Int)) = some (.int .u64 ((x * 2 ^ (7 * i) : Nat) : Int), h) := by
  rw [AM.bin_shl h .u64 .i64 _ _ (by omega)]
  have h1 : min ((7 * i : Nat) : Int).toNat IntKind.u64.bits = 7 * i := by
    show min (7 * i) 64 = _
    omega
  rw [h1]
  have h2 : ((x : Int) * 2 ^ (7 * i)) = ((x * 2 ^ (7 * i) : Nat) : Int) := by simp
  rw [h2, wrapU64 (by omega) (by omega)]
theorem orU (h : AHeap) (n x i : Nat) (hn : n < 2 ^ (7 * i)) (hx : n + x * 2 ^ (7 * i) < 18446744073709551616) : binV h .or (.int .u64 n) (.int .u64 ((x * 2 ^ (7 * i) : Nat) : Int)) = some (.int .u64 ((n + x * 2 ^ (7 * i) : Nat) : Int), h) := by
  have k8 : kMax .u64 = 18446744073709551615 := rfl
  rw [AM.bin_or h .u64 _ _ (by omega) (by rw [k8]; omega) (by omega) (by rw [k8]; omega)]
  show some (AVal.int .u64 (((n ||| x * 2 ^ (7 * i) : Nat)) : Int), h) = _
  have e1 : 2 ^ (7 * i) * x + n = 2 ^ (7 * i) * x ||| n := Nat.two_pow_add_eq_or_of_lt hn x
  rw [Nat.or_comm, Nat.mul_comm, ← e1, Nat.add_comm]

theorem rword {h : AHeap} {r : Nat} {v : AVal} {t : List Int} {p : Nat} (H : RdOk h r v t p) : CallX AP 45 [.ptr r 0 0] h (RP h r v t.length (fun x _ (n : Nat) => x = .int .u64 n ∧ n < 18446744073709551616) (pword t p)) := by
  refine callX (rfl : Tr.get AP 45 = some A45) ?_
  generalize hQ : RP h r v t.length (fun x _ (n : Nat) => x = .int .u64 n ∧ n < 18446744073709551616) (pword t p) = Q
  have hg := H.get
  have hlt := H.lt
  simp -implicitDefEqProofs (disch := first | decide | assumption | omega | (simp -implicitDefEqProofs only [AM.RN]; first | done | omega) | fail) only [↓AM.RX, AM.tx_short, ↓AM.R0, AM.R1, AM.R2, Nat.reduceAdd, Nat.reduceLeDiff, Nat.reduceEqDiff, Int.reduceToNat, Nat.reduceLT, ↓reduceIte, Int.reduceEq, Int.reduceLT, Int.reduceLE, hg]
  refine AM.loopX_of (fun k e h' => ∃ (i q n : Nat), k + q = t.length ∧ q ≤ t.length ∧ e.val 0 = .ptr r 0 0 ∧ e.val 3 = .int .i64 p ∧ e.val 4 = .int .u64 n ∧ e.val 5 = .int .i64 ((7 * i : Nat) : Int) ∧ i ≤ 9 ∧ n < 2 ^ (7 * i) ∧
    pword t p = wordR p (t.drop q) q i n ∧ HFrame h h' [r] [r] ∧ h'.get r = .cells 0 false [v, .int .i64 q]) (t.length - p) ?_ ?_
  · refine ⟨0, p, 0, by have := H.le; omega, H.le, ?_, ?_, ?_, ?_, by omega, by simp, rfl, HFrame.refl (by simpa using H.lt), H.get⟩ <;> simp -implicitDefEqProofs (disch := first | decide | assumption | omega | (simp -implicitDefEqProofs only [AM.RN]; first | done | omega) | fail) only [↓AM.RX, AM.tx_short, ↓AM.R0, AM.R1, AM.R2, Nat.reduceAdd, Nat.reduceLeDiff, Nat.reduceEqDiff, Int.reduceToNat, Nat.reduceLT, ↓reduceIte, Int.reduceEq, Int.reduceLT, Int.reduceLE] <;> rfl
  · rintro k e h' ⟨i, q, n, hk, hq, e0, e3, e4, e5, hi, hn, heq, f, g⟩
    have H' := H.next f g hq
    have hlt' := H'.lt
    have hlen := H'.txt.len
    simp -implicitDefEqProofs (disch := first | decide | assumption | omega | (simp -implicitDefEqProofs only [AM.RN]; first | done | omega) | fail) only [↓AM.RX, AM.tx_short, ↓AM.R0, AM.R1, AM.R2, Nat.reduceAdd, Nat.reduceLeDiff, Nat.reduceEqDiff, Int.reduceToNat, Nat.reduceLT, ↓reduceIte, Int.reduceEq, Int.reduceLT, Int.reduceLE, e0, e3, e4, e5, g, hlen]
    refine AM.cX_bool (fun hb => ?_) (fun hb => ?_)
    · simp only [decide_eq_true_eq] at hb
      have hqe : q = t.length := by omega
      simp -implicitDefEqProofs (disch := first | decide | assumption | omega | (simp -implicitDefEqProofs only [AM.RN]; first | done | omega) | fail) only [↓AM.RX, AM.tx_short, ↓AM.R0, AM.R1, AM.R2, Nat.reduceAdd, Nat.reduceLeDiff, Nat.reduceEqDiff, Int.reduceToNat, Nat.reduceLT, ↓reduceIte, Int.reduceEq, Int.reduceLT, Int.reduceLE, e3]
      refine AM.callXI_of (failX h' 7 p) (fun _ _ q => by cases q.1) ?_
      rintro x h2 ⟨hx, rfl⟩
      cases hx
      simp -implicitDefEqProofs (disch := first | decide | assumption | omega | (simp -implicitDefEqProofs only [AM.RN]; first | done | omega) | fail) only [↓AM.RX, AM.tx_short, ↓AM.R0, AM.R1, AM.R2, Nat.reduceAdd, Nat.reduceLeDiff, Nat.reduceEqDiff, Int.reduceToNat, Nat.reduceLT, ↓reduceIte, Int.reduceEq, Int.reduceLT, Int.reduceLE]
      subst hQ
      rw [heq, hqe, List.drop_length]
      exact ⟨rfl, f⟩
    · simp only [decide_eq_false_iff_not] at hb
      obtain ⟨b, hbq⟩ : ∃ b, t[q]? = some b := ⟨_, List.getElem?_eq_getElem (by omega)⟩
      obtain ⟨hb0, hb1⟩ := H.byte b (List.mem_of_getElem? hbq)
      obtain ⟨j, gg, off, vs, ro, x1, x2, x3, x5⟩ := ((H'.txt.rd hbq).unmask).ix1 (enc := fun n => .int .u8 n) hbq .i64
      have hw : IntKind.i64.wrap ((q : Int) + 1) = ((q + 1 : Nat) : Int) := wrap64 (by omega) (by have := H.size; omega)
      have hd := rdrop hbq
      have fS : ∀ o, HFrame h (h'.set r o) [r] [r] := fun o => f.trans (HFrame.set h' r o List.mem_cons_self f.lt)
      simp -implicitDefEqProofs (disch := first | decide | assumption | omega | (simp -implicitDefEqProofs only [AM.RN]; first | done | omega) | fail) only [↓AM.RX, AM.tx_short, AM.RGB, ↓AM.R0, AM.R1, AM.R2, Nat.reduceAdd, Nat.reduceLeDiff, Nat.reduceEqDiff, Int.reduceToNat, Nat.reduceLT, ↓reduceIte, Int.reduceEq, Int.reduceLT, Int.reduceLE, e0, e3, e4, e5, g, x1, x2, x5, hw]
      refine AM.cX_bool (fun hc => ?_) (fun hc => ?_)
      · have hc' : (i = 9 ∧ 1 < b) ∨ (0 < i ∧ b = 0) := by
          simp only [Bool.or_eq_true, Bool.and_eq_true, decide_eq_true_eq] at hc
          omega
        simp -implicitDefEqProofs (disch := first | decide | assumption | omega | (simp -implicitDefEqProofs only [AM.RN]; first | done | omega) | fail) only [↓AM.RX, AM.tx_short, ↓AM.R0, AM.R1, AM.R2, Nat.reduceAdd, Nat.reduceLeDiff, Nat.reduceEqDiff, Int.reduceToNat, Nat.reduceLT, ↓reduceIte, Int.reduceEq, Int.reduceLT, Int.reduceLE, e3]
        refine AM.callXI_of (failX _ 8 p) (fun _ _ q => by cases q.1) ?_
        rintro x h2 ⟨hx, rfl⟩
        cases hx
        simp -implicitDefEqProofs (disch := first | decide | assumption | omega | (simp -implicitDefEqProofs only [AM.RN]; first | done | omega) | fail) only [↓AM.RX, AM.tx_short, ↓AM.R0, AM.R1, AM.R2, Nat.reduceAdd, Nat.reduceLeDiff, Nat.reduceEqDiff, Int.reduceToNat, Nat.reduceLT, ↓reduceIte, Int.reduceEq, Int.reduceLT, Int.reduceLE]
        subst hQ
        rw [heq, hd, wordR, if_pos hc']
        exact ⟨rfl, fS _⟩
      · have hc' : ¬ ((i = 9 ∧ 1 < b) ∨ (0 < i ∧ b = 0)) := by
          simp only [Bool.or_eq_false_iff, Bool.and_eq_false_imp, decide_eq_true_eq, decide_eq_false_iff_not] at hc
          omega
        have hx : n + b.toNat % 128 * 2 ^ (7 * i) < 2 ^ (7 * i + 7) := by
          have h1 : b.toNat % 128 < 128 := Nat.mod_lt _ (by omega)
          have h2 : (b.toNat % 128 + 1) * 2 ^ (7 * i) ≤ 128 * 2 ^ (7 * i) := Nat.mul_le_mul_right _ h1
          rw [Nat.pow_add, Nat.add_mul] at *
          omega
        have hx64 : n + b.toNat % 128 * 2 ^ (7 * i) < 18446744073709551616 := by
          by_cases h9 : i = 9
          · subst h9
            have h1 : b.toNat ≤ 1 := by omega
            have h2 : b.toNat % 128 ≤ 1 := by omega
            have h3 := Nat.mul_le_mul_right (2 ^ (7 * 9)) h2
            have h4 : (2 : Nat) ^ (7 * 9) = 9223372036854775808 := by decide
            omega
          · have h5 : (2 : Nat) ^ (7 * i + 7) ≤ 2 ^ 63 := Nat.pow_le_pow_right (by omega) (by omega)
            have h4 : (2 : Nat) ^ 63 = 9223372036854775808 := by decide
            omega
        have a1 := and127
        have a2 := fun h => shlU h (b.toNat % 128) i hi (by omega)
        have a3 := fun h => orU h n (b.toNat % 128) i hn hx64
        have w1 : IntKind.u64.wrap ((b.toNat % 128 : Nat) : Int) = ((b.toNat % 128 : Nat) : Int) := wrapU64 (by omega) (by omega)
        simp -implicitDefEqProofs (disch := first | decide | assumption | omega | (simp -implicitDefEqProofs only [AM.RN]; first | done | omega) | fail) only [↓AM.RX, AM.tx_short, ↓AM.R0, AM.R1, AM.R2, Nat.reduceAdd, Nat.reduceLeDiff, Nat.reduceEqDiff, Int.reduceToNat, Nat.reduceLT, ↓reduceIte, Int.reduceEq, Int.reduceLT, Int.reduceLE, e0, e3, e4, e5, a1, a2, a3, w1]
        refine AM.cX_bool (fun hd' => ?_) (fun hd' => ?_)
        · simp only [decide_eq_true_eq] at hd'
          simp -implicitDefEqProofs (disch := first | decide | assumption | omega | (simp -implicitDefEqProofs only [AM.RN]; first | done | omega) | fail) only [↓AM.RX, AM.tx_short, ↓AM.R0, AM.R1, AM.R2, Nat.reduceAdd, Nat.reduceLeDiff, Nat.reduceEqDiff, Int.reduceToNat, Nat.reduceLT, ↓reduceIte, Int.reduceEq, Int.reduceLT, Int.reduceLE]
          subst hQ
          rw [heq, hd, wordR, if_neg hc', if_pos hd']
          exact ⟨_, rfl, fS _, AHeap.get_set_same _ _ _, by omega, rfl, hx64⟩
        · simp only [decide_eq_false_iff_not] at hd'
          have hi9 : i ≠ 9 := by omega
          have hw7 : IntKind.i64.wrap (((7 * i : Nat) : Int) + 7) = ((7 * (i + 1) : Nat) : Int) := by rw [wrap64 (by omega) (by omega)]; omega
          simp -implicitDefEqProofs (disch := first | decide | assumption | omega | (simp -implicitDefEqProofs only [AM.RN]; first | done | omega) | fail) only [↓AM.RX, AM.tx_short, ↓AM.R0, AM.R1, AM.R2, Nat.reduceAdd, Nat.reduceLeDiff, Nat.reduceEqDiff, Int.reduceToNat, Nat.reduceLT, ↓reduceIte, Int.reduceEq, Int.reduceLT, Int.reduceLE, e0, e3, e4, e5, hw7]
          refine ⟨t.length - (q + 1), by omega, i + 1, q + 1, n + b.toNat % 128 * 2 ^ (7 * i), by omega, by omega, rfl, rfl, by omega, by rw [Nat.mul_add]; exact hx, ?_, fS _, rfl⟩
          rw [heq, hd, wordR, if_neg hc', if_neg hd']

theorem RP.bind_bad {h : AHeap} {r : Nat} {v : AVal} {L : Nat} {α : Type} {R : AVal → AHeap → α → Prop} {e : Int} {p : Nat} {res : ARes} {h' : AHeap} (q : RP h r v L R (.bad e p) res h') : res = .panic (fltV e p) ∧ HFrame h h' [r] [r] := q

theorem rnum {h : AHeap} {r : Nat} {v : AVal} {t : List Int} {p : Nat} (H : RdOk h r v t p) (lim : Nat) (e : Int) (hlim : lim ≤ 65535) :
    CallX AP 39 [.ptr r 0 0, .int .i64 lim, .int .i64 e] h (RP h r v t.length (fun x _ (n : Nat) => x = .int .i64 n ∧ n ≤ lim) (pnum t lim e p)) := by
  refine callX (rfl : Tr.get AP 39 = some A39) ?_
  generalize hQ : RP h r v t.length (fun x _ (n : Nat) => x = .int .i64 n ∧ n ≤ lim) (pnum t lim e p) = Q
  have hg := H.get
  have hlt := H.lt
  simp -implicitDefEqProofs (disch := first | decide | assumption | omega | (simp -implicitDefEqProofs only [AM.RN]; first | done | omega) | fail) only [↓AM.RX, AM.tx_short, ↓AM.R0, AM.R1, AM.R2, Nat.reduceAdd, Nat.reduceLeDiff, Nat.reduceEqDiff, Int.reduceToNat, Nat.reduceLT, ↓reduceIte, Int.reduceEq, Int.reduceLT, Int.reduceLE, hg]
  have W := rword H
  unfold pnum at hQ
  cases hp : pword t p with
  | bad e2 p2 =>
    rw [hp] at W hQ
    refine AM.callXI_of W (fun _ _ q => by cases q.1) ?_
    rintro x h2 ⟨hx, f⟩
    cases hx
    simp -implicitDefEqProofs (disch := first | decide | assumption | omega | (simp -implicitDefEqProofs only [AM.RN]; first | done | omega) | fail) only [↓AM.RX, AM.tx_short, ↓AM.R0, AM.R1, AM.R2, Nat.reduceAdd, Nat.reduceLeDiff, Nat.reduceEqDiff, Int.reduceToNat, Nat.reduceLT, ↓reduceIte, Int.reduceEq, Int.reduceLT, Int.reduceLE]
    subst hQ
    exact ⟨rfl, f⟩
  | ok n p2 =>
    rw [hp] at W hQ
    refine AM.callXI_of W ?_ (fun _ _ q => by obtain ⟨_, q, _⟩ := q; cases q)
    rintro x h2 ⟨x', hx, f, g, hle, rfl, hn⟩
    cases hx
    have w1 : IntKind.u64.wrap (lim : Int) = (lim : Int) := wrapU64 (by omega) (by omega)
    simp -implicitDefEqProofs (disch := first | decide | assumption | omega | (simp -implicitDefEqProofs only [AM.RN]; first | done | omega) | fail) only [↓AM.RX, AM.tx_short, ↓AM.R0, AM.R1, AM.R2, Nat.reduceAdd, Nat.reduceLeDiff, Nat.reduceEqDiff, Int.reduceToNat, Nat.reduceLT, ↓reduceIte, Int.reduceEq, Int.reduceLT, Int.reduceLE, w1]
    refine AM.cX_bool (fun hb => ?_) (fun hb => ?_)
    · simp only [decide_eq_true_eq] at hb
      simp -implicitDefEqProofs (disch := first | decide | assumption | omega | (simp -implicitDefEqProofs only [AM.RN]; first | done | omega) | fail) only [↓AM.RX, AM.tx_short, ↓AM.R0, AM.R1, AM.R2, Nat.reduceAdd, Nat.reduceLeDiff, Nat.reduceEqDiff, Int.reduceToNat, Nat.reduceLT, ↓reduceIte, Int.reduceEq, Int.reduceLT, Int.reduceLE]
      refine AM.callXI_of (failX _ e p) (fun _ _ q => by cases q.1) ?_
      rintro x h3 ⟨hx, rfl⟩
      cases hx
      simp -implicitDefEqProofs (disch := first | decide | assumption | omega | (simp -implicitDefEqProofs only [AM.RN]; first | done | omega) | fail) only [↓AM.RX, AM.tx_short, ↓AM.R0, AM.R1, AM.R2, Nat.reduceAdd, Nat.reduceLeDiff, Nat.reduceEqDiff, Int.reduceToNat, Nat.reduceLT, ↓reduceIte, Int.reduceEq, Int.reduceLT, Int.reduceLE]
      subst hQ
      simp only [PR.bind]
      rw [if_pos (by omega)]
      exact ⟨rfl, f⟩
    · simp only [decide_eq_false_iff_not] at hb
      have w2 : IntKind.i64.wrap (n : Int) = (n : Int) := wrap64 (by omega) (by omega)
      simp -implicitDefEqProofs (disch := first | decide | assumption | omega | (simp -implicitDefEqProofs only [AM.RN]; first | done | omega) | fail) only [↓AM.RX, AM.tx_short, ↓AM.R0, AM.R1, AM.R2, Nat.reduceAdd, Nat.reduceLeDiff, Nat.reduceEqDiff, Int.reduceToNat, Nat.reduceLT, ↓reduceIte, Int.reduceEq, Int.reduceLT, Int.reduceLE, w2]
      subst hQ
      simp only [PR.bind]
      rw [if_neg (by omega)]
      exact ⟨_, rfl, f, g, hle, rfl, by omega⟩

def pkinds (t : List Int) (lim : Nat) (p : Nat) : PR (List Nat) := (pnum t lim 16 p).bind fun n p => plist (pnum t 65535 1) n p
/-- A list of numbers, as it is read. -/
abbrev asK (l : List Nat) : List Int := l.map Int.ofNat

theorem fr4 {h h1 h2 h3 : AHeap} {A F F4 : List Nat} {r : Nat} (f : HFrame h h1 A (r :: F)) (f2 : HFrame h1 h2 [r] [r]) (f3 : HFrame h2 h3 F F4) : HFrame h h3 A (r :: F4) := by
  have a : HFrame h1 h2 (r :: F) (r :: F) := f2.wide (by simp) (fun j hj => .inr hj) f.lt
  exact (f.trans a).trans (f3.wide (fun j hj => List.mem_cons_of_mem _ hj) (fun j hj => by
    rcases List.mem_cons.1 hj with e | e
    · exact .inr (by simp [e])
    · exact .inl e) a.lt)

theorem rkinds {h : AHeap} {r : Nat} {v : AVal} {t : List Int} {p : Nat} (H : RdOk h r v t p) (lim : Nat) (hlim : lim ≤ 65535) :
    CallX AP 40 [.ptr r 0 0, .int .i64 lim] h (RP h r v t.length (fun x h' (l : List Nat) => (∀ M : List Nat, (∀ j, j ∈ M → j < h.n) → SlRd (h'.masks M) 1 encK x (asK l)) ∧ l.length ≤ lim) (pkinds t lim p)) := by
  refine callX (rfl : Tr.get AP 40 = some A40) ?_
  generalize hQ : RP h r v t.length (fun x h' (l : List Nat) => (∀ M : List Nat, (∀ j, j ∈ M → j < h.n) → SlRd (h'.masks M) 1 encK x (asK l)) ∧ l.length ≤ lim) (pkinds t lim p) = Q
  have hg := H.get
  have hlt := H.lt
  simp -implicitDefEqProofs (disch := first | decide | assumption | omega | (simp -implicitDefEqProofs only [AM.RN]; first | done | omega) | fail) only [↓AM.RX, AM.tx_short, ↓AM.R0, AM.R1, AM.R2, Nat.reduceAdd, Nat.reduceLeDiff, Nat.reduceEqDiff, Int.reduceToNat, Nat.reduceLT, ↓reduceIte, Int.reduceEq, Int.reduceLT, Int.reduceLE, hg]
  have W := rnum H lim 16 hlim
  unfold pkinds at hQ
  cases hp : pnum t lim 16 p with
  | bad e2 p2 =>
    rw [hp] at W hQ
    refine AM.callXI_of W (fun _ _ q => by cases q.1) ?_
    rintro x h2 ⟨hx, f⟩
    cases hx
    simp -implicitDefEqProofs (disch := first | decide | assumption | omega | (simp -implicitDefEqProofs only [AM.RN]; first | done | omega) | fail) only [↓AM.RX, AM.tx_short, ↓AM.R0, AM.R1, AM.R2, Nat.reduceAdd, Nat.reduceLeDiff, Nat.reduceEqDiff, Int.reduceToNat, Nat.reduceLT, ↓reduceIte, Int.reduceEq, Int.reduceLT, Int.reduceLE]
    subst hQ
    exact ⟨rfl, f⟩
  | ok n p2 =>
    rw [hp] at W hQ
    refine AM.callXI_of W ?_ (fun _ _ q => by obtain ⟨_, q, _⟩ := q; cases q)
    rintro x h2 ⟨x', hx, f2, g2, hle, rfl, hn⟩
    cases hx
    simp -implicitDefEqProofs (disch := first | decide | assumption | omega | (simp -implicitDefEqProofs only [AM.RN]; first | done | omega) | fail) only [↓AM.RX, AM.tx_short, ↓AM.R0, AM.R1, AM.R2, Nat.reduceAdd, Nat.reduceLeDiff, Nat.reduceEqDiff, Int.reduceToNat, Nat.reduceLT, ↓reduceIte, Int.reduceEq, Int.reduceLT, Int.reduceLE]
    refine AM.loopX_of (fun k e h' => ∃ (l : List Nat) (q : Nat) (lv : AVal) (F : List Nat), k + l.length = n ∧ e.val 0 = .ptr r 0 0 ∧ e.val 8 = .int .i64 n ∧ e.val 9 = .int .i64 l.length ∧ e.val 5 = lv ∧
      SlOf h' 1 encK lv (asK l) F ∧ r ∉ F ∧ HFrame h h' [r] (r :: F) ∧ h'.get r = .cells 0 false [v, .int .i64 q] ∧ q ≤ t.length ∧
      plist (pnum t 65535 1) n p2 = (plist (pnum t 65535 1) k q).bind fun l2 p => .ok (l ++ l2) p) n ?_ ?_
    · refine ⟨[], p2, .nils, [], by simp, ?_, ?_, ?_, ?_, SlOf.nil, by simp, f2, g2, hle, ?_⟩
      · simp -implicitDefEqProofs (disch := first | decide | assumption | omega | (simp -implicitDefEqProofs only [AM.RN]; first | done | omega) | fail) only [↓AM.RX, AM.tx_short, ↓AM.R0, AM.R1, AM.R2, Nat.reduceAdd, Nat.reduceLeDiff, Nat.reduceEqDiff, Int.reduceToNat, Nat.reduceLT, ↓reduceIte, Int.reduceEq, Int.reduceLT, Int.reduceLE]
      · simp -implicitDefEqProofs (disch := first | decide | assumption | omega | (simp -implicitDefEqProofs only [AM.RN]; first | done | omega) | fail) only [↓AM.RX, AM.tx_short, ↓AM.R0, AM.R1, AM.R2, Nat.reduceAdd, Nat.reduceLeDiff, Nat.reduceEqDiff, Int.reduceToNat, Nat.reduceLT, ↓reduceIte, Int.reduceEq, Int.reduceLT, Int.reduceLE]
      · simp -implicitDefEqProofs (disch := first | decide | assumption | omega | (simp -implicitDefEqProofs only [AM.RN]; first | done | omega) | fail) only [↓AM.RX, AM.tx_short, ↓AM.R0, AM.R1, AM.R2, Nat.reduceAdd, Nat.reduceLeDiff, Nat.reduceEqDiff, Int.reduceToNat, Nat.reduceLT, ↓reduceIte, Int.reduceEq, Int.reduceLT, Int.reduceLE]; rfl
      · simp -implicitDefEqProofs (disch := first | decide | assumption | omega | (simp -implicitDefEqProofs only [AM.RN]; first | done | omega) | fail) only [↓AM.RX, AM.tx_short, ↓AM.R0, AM.R1, AM.R2, Nat.reduceAdd, Nat.reduceLeDiff, Nat.reduceEqDiff, Int.reduceToNat, Nat.reduceLT, ↓reduceIte, Int.reduceEq, Int.reduceLT, Int.reduceLE]
      · cases plist (pnum t 65535 1) n p2 <;> rfl
    · rintro k e h' ⟨l, q, lv, F, hk, e0, e8, e9, e5, hs, hrF, f, g, hq, heq⟩
      have fr : HFrame h h' [r] [r] := ⟨f.n, f.g, f.get, fun j hj => .inl hj, fun j hj => f.lt j (by simp at hj; simp [hj])⟩
      have H' := H.next fr g hq
      simp -implicitDefEqProofs (disch := first | decide | assumption | omega | (simp -implicitDefEqProofs only [AM.RN]; first | done | omega) | fail) only [↓AM.RX, AM.tx_short, ↓AM.R0, AM.R1, AM.R2, Nat.reduceAdd, Nat.reduceLeDiff, Nat.reduceEqDiff, Int.reduceToNat, Nat.reduceLT, ↓reduceIte, Int.reduceEq, Int.reduceLT, Int.reduceLE, e0, e8, e9, e5]
      refine AM.cX_bool (fun hb => ?_) (fun hb => ?_)
      · simp only [decide_eq_true_eq] at hb
        obtain ⟨k, rfl⟩ : ∃ m, k = m + 1 := ⟨k - 1, by omega⟩
        have hw : IntKind.i64.wrap ((l.length : Int) + 1) = ((l.length + 1 : Nat) : Int) := wrap64 (by omega) (by omega)
        simp -implicitDefEqProofs (disch := first | decide | assumption | omega | (simp -implicitDefEqProofs only [AM.RN]; first | done | omega) | fail) only [↓AM.RX, AM.tx_short, ↓AM.R0, AM.R1, AM.R2, Nat.reduceAdd, Nat.reduceLeDiff, Nat.reduceEqDiff, Int.reduceToNat, Nat.reduceLT, ↓reduceIte, Int.reduceEq, Int.reduceLT, Int.reduceLE, e0, e8, e9, e5]
        have W := rnum H' 65535 1 (by omega)
        simp only [plist] at heq
        cases hp2 : pnum t 65535 1 q with
        | bad e2 p2 =>
          rw [hp2] at W heq
          refine AM.callXI_of W (fun _ _ q => by cases q.1) ?_
          rintro x h2 ⟨hx, f2⟩
          cases hx
          simp -implicitDefEqProofs (disch := first | decide | assumption | omega | (simp -implicitDefEqProofs only [AM.RN]; first | done | omega) | fail) only [↓AM.RX, AM.tx_short, ↓AM.R0, AM.R1, AM.R2, Nat.reduceAdd, Nat.reduceLeDiff, Nat.reduceEqDiff, Int.reduceToNat, Nat.reduceLT, ↓reduceIte, Int.reduceEq, Int.reduceLT, Int.reduceLE]
          subst hQ
          simp only [PR.bind] at heq ⊢
          rw [heq]
          exact ⟨rfl, fr.trans f2⟩
        | ok m q2 =>
          rw [hp2] at W heq
          refine AM.callXI_of W ?_ (fun _ _ q => by obtain ⟨_, q, _⟩ := q; cases q)
          rintro x h3 ⟨x', hx, f3, g3, hle3, rfl, hm⟩
          cases hx
          have hs3 := hs.frame f3.n fun j hj => f3.get j (hs.lt j hj) (by simp; intro e; exact hrF (e ▸ hj))
          simp -implicitDefEqProofs (disch := first | decide | assumption | omega | (simp -implicitDefEqProofs only [AM.RN]; first | done | omega) | fail) only [↓AM.RX, AM.tx_short, ↓AM.R0, AM.R1, AM.R2, Nat.reduceAdd, Nat.reduceLeDiff, Nat.reduceEqDiff, Int.reduceToNat, Nat.reduceLT, ↓reduceIte, Int.reduceEq, Int.reduceLT, Int.reduceLE, e0, e8, e9, e5]
          refine AM.opX_of (hs3.app1 (fun _ => rfl) (fun _ => rfl) (by simp [asK]; omega) (m : Int) fun v' h4 F4 s4 f4 => ?_)
          have g4 : h4.get r = _ := (f4.get r (Nat.lt_of_lt_of_le H'.lt f3.n) hrF).trans g3
          simp -implicitDefEqProofs (disch := first | decide | assumption | omega | (simp -implicitDefEqProofs only [AM.RN]; first | done | omega) | fail) only [↓AM.RX, AM.tx_short, ↓AM.R0, AM.R1, AM.R2, Nat.reduceAdd, Nat.reduceLeDiff, Nat.reduceEqDiff, Int.reduceToNat, Nat.reduceLT, ↓reduceIte, Int.reduceEq, Int.reduceLT, Int.reduceLE, e0, e8, e9, e5, hw]
          have f4r : HFrame h h4 [r] (r :: F4) := fr4 f f3 f4
          have heq2 : plist (pnum t 65535 1) n p2 = (plist (pnum t 65535 1) k q2).bind fun l2 p => .ok ((l ++ [m]) ++ l2) p := by
            rw [heq]
            simp only [PR.bind]
            cases plist (pnum t 65535 1) k q2 <;> simp [PR.bind]
          have s4' : SlOf h4 1 encK v' (asK (l ++ [m])) F4 := by rw [show asK (l ++ [m]) = asK l ++ [(m : Int)] by simp [asK]]; exact s4
          refine ⟨k, by omega, l ++ [m], q2, v', F4, ?_⟩
          rw [List.length_append, List.length_cons, List.length_nil]
          and_intros <;> first | omega | exact s4' | exact f4.out hrF (Nat.lt_of_lt_of_le H'.lt f3.n) | exact f4r | exact g4 | exact heq2 | rfl
      · simp only [decide_eq_false_iff_not] at hb
        have hk0 : k = 0 := by omega
        subst hk0
        simp -implicitDefEqProofs (disch := first | decide | assumption | omega | (simp -implicitDefEqProofs only [AM.RN]; first | done | omega) | fail) only [↓AM.RX, AM.tx_short, ↓AM.R0, AM.R1, AM.R2, Nat.reduceAdd, Nat.reduceLeDiff, Nat.reduceEqDiff, Int.reduceToNat, Nat.reduceLT, ↓reduceIte, Int.reduceEq, Int.reduceLT, Int.reduceLE, e5]
        subst hQ
        simp only [PR.bind]
        rw [heq]
        simp only [plist, PR.bind, List.append_nil]
        exact ⟨_, rfl, fr, g, hq, fun M hM => (hs.masks fun j hj hm => by
          have := hM j hm
          rcases f.new j (List.mem_cons_of_mem _ hj) with e | e
          · simp only [List.mem_cons, List.not_mem_nil, or_false] at e; exact hrF (e ▸ hj)
          · omega).rd, by omega⟩
end Go.Proofs.Ytfagngiceofoeaa.Cd

namespace Go.Proofs.Ytfagngiceofoeaa.Cd
open Go Go.AM Go.Proofs.Ytfagngiceofoeaa.AmGC
attribute [local irreducible] AM.wp AM.wpIs AM.wpTr AM.opI AM.gI AM.cI AM.trI AM.callI AM.fnI AM.trG AM.trOp AM.trCall AM.seqC AM.loopI AM.wx AM.wxIs AM.wxTr AM.opX AM.gX AM.cX AM.callXI AM.fnX AM.panX AM.loopX AM.seqX AM.txI AM.txOp AM.txG AM.txFn AM.txCall
set_option maxRecDepth 100000
set_option linter.unusedVariables false
set_option linter.unusedSimpArgs false

theorem tmpF {h h1 h2 : AHeap} {A B F F' : List Nat} {n : Nat} (f : HFrame h h1 A B) (g : HFrame h1 h2 F F') (hn : h.n ≤ n) (hn1 : n ≤ h1.n) (hF : ∀ j, j ∈ F → n ≤ j) : HFrame h h2 A B ∧ ∀ j, j ∈ F' → n ≤ j := by
  refine ⟨⟨Nat.le_trans f.n g.n, g.g.trans f.g, fun j hj ha => (g.get j (Nat.lt_of_lt_of_le hj f.n) fun hm => by have := hF j hm; omega).trans (f.get j hj ha), f.new, fun j hj => Nat.lt_of_lt_of_le (f.lt j hj) g.n⟩, fun j hj => ?_⟩
  rcases g.new j hj with e | e
  · exact hF j e
  · omega

theorem plist_succ {α : Type} (f : Nat → PR α) (c p : Nat) : plist f (c + 1) p = (f p).bind fun a p => (plist f c p).bind fun l p => .ok (a :: l) p := rfl
theorem plist_zero {α : Type} (f : Nat → PR α) (p : Nat) : plist f 0 p = .ok [] p := rfl
def pins (t : List Int) (p : Nat) : PR PIns := (plist (pnum t 65535 1) 4 p).bind fun l p => (pword t p).bind fun imm p => (pnum t 24 16 p).bind fun n p => (plist (pnum t 65535 1) n p).bind fun li p =>
  .ok ⟨l.getD 0 0, l.getD 1 0, l.getD 2 0, l.getD 3 0, imm, asK li⟩ p

theorem PR.bind_ok {α : Type} (x : PR α) : (x.bind fun a p => .ok a p) = x := by cases x <;> rfl
theorem PR.bind_bind {α β γ : Type} (x : PR α) (f : α → Nat → PR β) (g : β → Nat → PR γ) : (x.bind f).bind g = x.bind fun a p => (f a p).bind g := by cases x <;> rfl
theorem PR.ok_bind {α β : Type} (a : α) (n : Nat) (f : α → Nat → PR β) : (PR.ok a n).bind f = f a n := rfl
theorem PR.bad_bind {α β : Type} (e : Int) (n : Nat) (f : α → Nat → PR β) : (PR.bad e n).bind f = .bad e n := rfl

def InsS (h : AHeap) (i : PIns) (row : List AVal) : Prop := i.imm ≤ 18446744073709551615 ∧ ∃ v, row = [.int .i64 i.op, .int .i64 i.a, .int .i64 i.b, .int .i64 i.c, .int .u64 i.imm, v] ∧ SlRd h 1 encK v i.list

set_option maxHeartbeats 1000000 in
theorem rins {h : AHeap} {r : Nat} {v : AVal} {t : List Int} {p : Nat} (H : RdOk h r v t p) :
    CallX AP 41 [.ptr r 0 0] h (RP h r v t.length (fun x h' (i : PIns) => ∃ row, x = .agg row ∧ row.length = 6 ∧ row.all (·.cell) = true ∧ (∀ M : List Nat, (∀ j, j ∈ M → j < h.n) → InsS (h'.masks M) i row) ∧ i.list.length ≤ 24) (pins t p)) := by
  refine callX (rfl : Tr.get AP 41 = some A41) ?_
  generalize hQ : RP h r v t.length (fun x h' (i : PIns) => ∃ row, x = .agg row ∧ row.length = 6 ∧ row.all (·.cell) = true ∧ (∀ M : List Nat, (∀ j, j ∈ M → j < h.n) → InsS (h'.masks M) i row) ∧ i.list.length ≤ 24) (pins t p) = Q
  have hg := H.get
  have hlt := H.lt
  simp -implicitDefEqProofs (disch := first | decide | assumption | omega | (simp -implicitDefEqProofs only [AM.RN]; first | done | omega) | fail) only [↓AM.RX, AM.tx_short, ↓AM.R0, AM.R1, AM.R2, Nat.reduceAdd, Nat.reduceLeDiff, Nat.reduceEqDiff, Int.reduceToNat, Nat.reduceLT, ↓reduceIte, Int.reduceEq, Int.reduceLT, Int.reduceLE, hg]
  have f0 := HFrame.refl (h := h) (F := [r]) (by simpa using hlt)
  have fB := (f0.pushTmp (.cells 0 false [.int .i64 0, .int .i64 0, .int .i64 0, .int .i64 0, .int .u64 0, .nils])).pushTmp (.cells 0 false [.int .i64 0, .int .i64 0, .int .i64 0, .int .i64 0])
  refine AM.loopX_of (fun k e h' => ∃ (l : List Nat) (q : Nat) (vs : List AVal), k + l.length = 4 ∧ e.val 0 = .ptr r 0 0 ∧ e.val 2 = .ptr h.n 0 0 ∧ e.val 3 = .ptr (h.n + 1) 0 0 ∧ e.val 6 = .int .i64 l.length ∧
    h'.get h.n = .cells 0 false [.int .i64 0, .int .i64 0, .int .i64 0, .int .i64 0, .int .u64 0, .nils] ∧ h'.get (h.n + 1) = .cells 0 false vs ∧ vs.length = 4 ∧ vs.take l.length = (asK l).map (AVal.int .i64) ∧ h.n + 1 < h'.n ∧
    HFrame h h' [r] [r] ∧ h'.get r = .cells 0 false [v, .int .i64 q] ∧ q ≤ t.length ∧
    plist (pnum t 65535 1) 4 p = (plist (pnum t 65535 1) k q).bind fun l2 p => .ok (l ++ l2) p) 4 ?_ ?_
  · refine ⟨[], p, [.int .i64 0, .int .i64 0, .int .i64 0, .int .i64 0], ?_⟩
    simp -implicitDefEqProofs (disch := first | decide | assumption | omega | (simp -implicitDefEqProofs only [AM.RN]; first | done | omega) | fail) only [↓AM.RX, AM.tx_short, ↓AM.R0, AM.R1, AM.R2, Nat.reduceAdd, Nat.reduceLeDiff, Nat.reduceEqDiff, Int.reduceToNat, Nat.reduceLT, ↓reduceIte, Int.reduceEq, Int.reduceLT, Int.reduceLE, hg]
    and_intros <;> first | omega | exact fB | exact H.le | exact rfl | (cases plist (pnum t 65535 1) 4 p <;> rfl)
  · rintro k e h' ⟨l, q, vs, hk, e0, e2, e3, e6, g0, g1, hvl, hvt, hn, f, g, hq, heq⟩
    have H' := H.next f g hq
    simp -implicitDefEqProofs (disch := first | decide | assumption | omega | (simp -implicitDefEqProofs only [AM.RN]; first | done | omega) | fail) only [↓AM.RX, AM.tx_short, ↓AM.R0, AM.R1, AM.R2, Nat.reduceAdd, Nat.reduceLeDiff, Nat.reduceEqDiff, Int.reduceToNat, Nat.reduceLT, ↓reduceIte, Int.reduceEq, Int.reduceLT, Int.reduceLE, e0, e2, e3, e6]
    refine AM.cX_bool (fun hb => ?_) (fun hb => ?_)
    · simp only [decide_eq_true_eq] at hb
      obtain ⟨k, rfl⟩ : ∃ m, k = m + 1 := ⟨k - 1, by omega⟩
      simp -implicitDefEqProofs (disch := first | decide | assumption | omega | (simp -implicitDefEqProofs only [AM.RN]; first | done | omega) | fail) only [↓AM.RX, AM.tx_short, ↓AM.R0, AM.R1, AM.R2, Nat.reduceAdd, Nat.reduceLeDiff, Nat.reduceEqDiff, Int.reduceToNat, Nat.reduceLT, ↓reduceIte, Int.reduceEq, Int.reduceLT, Int.reduceLE, e0, e2, e3, e6]
      have W := rnum H' 65535 1 (by omega)
      rw [plist_succ _ k q] at heq
      cases hp2 : pnum t 65535 1 q with
      | bad e2 p2 =>
        rw [hp2] at W heq
        refine AM.callXI_of W (fun _ _ q => by cases q.1) ?_
        rintro x h2 ⟨hx, f2⟩
        cases hx
        simp -implicitDefEqProofs (disch := first | decide | assumption | omega | (simp -implicitDefEqProofs only [AM.RN]; first | done | omega) | fail) only [↓AM.RX, AM.tx_short, ↓AM.R0, AM.R1, AM.R2, Nat.reduceAdd, Nat.reduceLeDiff, Nat.reduceEqDiff, Int.reduceToNat, Nat.reduceLT, ↓reduceIte, Int.reduceEq, Int.reduceLT, Int.reduceLE]
        subst hQ
        unfold pins
        rw [heq]
        exact ⟨rfl, f.trans f2⟩
      | ok m q2 =>
        rw [hp2] at W heq
        refine AM.callXI_of W ?_ (fun _ _ q => by obtain ⟨_, q, _⟩ := q; cases q)
        rintro x h3 ⟨x', hx, f3, g3, hle3, rfl, hm⟩
        cases hx
        have g31 : h3.get (h.n + 1) = _ := (f3.get (h.n + 1) (by omega) (by simp; omega)).trans g1
        have g30 : h3.get h.n = _ := (f3.get h.n (by omega) (by simp; omega)).trans g0
        have n3 : h.n + 1 < h3.n := by have := f3.n; omega
        have hvl1 : l.length + 1 ≤ vs.length := by omega
        have hw : IntKind.i64.wrap ((l.length : Int) + 1) = ((l.length + 1 : Nat) : Int) := wrap64 (by omega) (by omega)
        simp -implicitDefEqProofs (disch := first | decide | assumption | omega | (simp -implicitDefEqProofs only [AM.RN]; first | done | omega) | fail) only [↓AM.RX, AM.tx_short, ↓AM.R0, AM.R1, AM.R2, Nat.reduceAdd, Nat.reduceLeDiff, Nat.reduceEqDiff, Int.reduceToNat, Nat.reduceLT, ↓reduceIte, Int.reduceEq, Int.reduceLT, Int.reduceLE, e0, e2, e3, e6, g31, hvl1, hw]
        refine ⟨k, by omega, l ++ [m], q2, vs.take l.length ++ [.int .i64 m] ++ vs.drop (l.length + 1), ?_⟩
        have heq2 : plist (pnum t 65535 1) 4 p = (plist (pnum t 65535 1) k q2).bind fun l2 p => .ok ((l ++ [m]) ++ l2) p := by
          rw [heq, PR.ok_bind, PR.bind_bind]
          simp only [PR.ok_bind, List.append_assoc, List.cons_append, List.nil_append]
        have ht2 : (vs.take l.length ++ [AVal.int .i64 m] ++ vs.drop (l.length + 1)).take (l.length + 1) = (asK (l ++ [m])).map (AVal.int .i64) := by
          rw [List.take_append_of_le_length (by simp; omega), List.take_of_length_le (by simp; omega), hvt]
          simp
        have hl4 : (vs.take l.length ++ [AVal.int .i64 m] ++ vs.drop (l.length + 1)).length = 4 := by
          simp only [List.length_append, List.length_take, List.length_drop, List.length_cons, List.length_nil]; omega
        have ff : HFrame h (h3.set (h.n + 1) (.cells 0 false (vs.take l.length ++ [.int .i64 m] ++ vs.drop (l.length + 1)))) [r] [r] := (f.trans f3).setTmp (by omega) _
        rw [List.length_append, List.length_cons, List.length_nil]
        and_intros <;> first | omega | exact g30 | exact hl4 | exact ht2 | exact ff | exact g3 | exact heq2 | rfl | (simp; omega)
    · simp only [decide_eq_false_iff_not] at hb
      have hk0 : k = 0 := by omega
      subst hk0
      obtain ⟨a, b, c, d, rfl⟩ : ∃ a b c d, l = [a, b, c, d] := by
        match l, hk with
        | [a, b, c, d], _ => exact ⟨a, b, c, d, rfl⟩
      have hvs : vs = [.int .i64 a, .int .i64 b, .int .i64 c, .int .i64 d] := by
        rw [← List.take_of_length_le (show vs.length ≤ 4 by omega)]
        exact hvt
      subst hvs
      clear hvt hvl hk
      unfold pins at hQ
      rw [heq] at hQ
      simp only [plist, PR.bind_bind, PR.ok_bind] at hQ
      simp -implicitDefEqProofs (disch := first | decide | assumption | omega | (simp -implicitDefEqProofs only [AM.RN]; first | done | omega) | fail) only [↓AM.RX, AM.tx_short, ↓AM.R0, AM.R1, AM.R2, Nat.reduceAdd, Nat.reduceLeDiff, Nat.reduceEqDiff, Int.reduceToNat, Nat.reduceLT, ↓reduceIte, Int.reduceEq, Int.reduceLT, Int.reduceLE, e0, e2, e3, e6, g1]
      have W := rword H'
      cases hp2 : pword t q with
      | bad e2 p2 =>
        rw [hp2] at W hQ
        refine AM.txCall_of W (fun _ _ q => by cases q.1) ?_
        rintro x h2 ⟨hx, f2⟩
        cases hx
        refine ⟨rfl, ?_, ?_⟩
        · simp -implicitDefEqProofs (disch := first | decide | assumption | omega | (simp -implicitDefEqProofs only [AM.RN]; first | done | omega) | fail) only [↓AM.RX, AM.tx_short, ↓AM.R0, AM.R1, AM.R2, Nat.reduceAdd, Nat.reduceLeDiff, Nat.reduceEqDiff, Int.reduceToNat, Nat.reduceLT, ↓reduceIte, Int.reduceEq, Int.reduceLT, Int.reduceLE]
        · simp -implicitDefEqProofs (disch := first | decide | assumption | omega | (simp -implicitDefEqProofs only [AM.RN]; first | done | omega) | fail) only [↓AM.RX, AM.tx_short, ↓AM.R0, AM.R1, AM.R2, Nat.reduceAdd, Nat.reduceLeDiff, Nat.reduceEqDiff, Int.reduceToNat, Nat.reduceLT, ↓reduceIte, Int.reduceEq, Int.reduceLT, Int.reduceLE]
          subst hQ
          exact ⟨rfl, f.trans f2⟩
      | ok imm q2 =>
        rw [hp2] at W hQ
        refine AM.txCall_of W ?_ (fun _ _ q => by obtain ⟨_, q, _⟩ := q; cases q)
        rintro x h3 ⟨x', hx, f3, g3, hle3, rfl, himm⟩
        cases hx
        have f13 := f.trans f3
        have g31 : h3.get (h.n + 1) = _ := (f3.get (h.n + 1) (by omega) (by simp; omega)).trans g1
        have g30 : h3.get h.n = _ := (f3.get h.n (by omega) (by simp; omega)).trans g0
        have n3 : h.n + 1 < h3.n := by have := f3.n; omega
        simp -implicitDefEqProofs (disch := first | decide | assumption | omega | (simp -implicitDefEqProofs only [AM.RN]; first | done | omega) | fail) only [↓AM.RX, AM.tx_short, ↓AM.R0, AM.R1, AM.R2, Nat.reduceAdd, Nat.reduceLeDiff, Nat.reduceEqDiff, Int.reduceToNat, Nat.reduceLT, ↓reduceIte, Int.reduceEq, Int.reduceLT, Int.reduceLE, e0, e2, e3, e6, g31]
        have H3 := H'.next f3 g3 hle3
        have fI := (f13.pushTmp (.cells 0 false [.int .i64 0, .int .i64 0, .int .i64 0, .int .i64 0, .int .u64 0, .nils])).setTmp (i := h3.n) (by omega) (.cells 0 false [.int .i64 a, .int .i64 b, .int .i64 c, .int .i64 d, .int .u64 imm, .nils])
        have hr3 : r ≠ h3.n := by have := H3.lt; omega
        have hr1 : r ≠ h.n := by omega
        have gI : ((h3.push (.cells 0 false [.int .i64 0, .int .i64 0, .int .i64 0, .int .i64 0, .int .u64 0, .nils])).set h3.n (.cells 0 false [.int .i64 a, .int .i64 b, .int .i64 c, .int .i64 d, .int .u64 imm, .nils])).get h3.n = _ := AHeap.get_set_same _ _ _
        have gIr : ((h3.push (.cells 0 false [.int .i64 0, .int .i64 0, .int .i64 0, .int .i64 0, .int .u64 0, .nils])).set h3.n (.cells 0 false [.int .i64 a, .int .i64 b, .int .i64 c, .int .i64 d, .int .u64 imm, .nils])).get r = .cells 0 false [v, .int .i64 q2] := by
          rw [AHeap.get_set_ne _ _ hr3, AHeap.get_push_ne _ _ hr3]; exact g3
        have gI0 : ((h3.push (.cells 0 false [.int .i64 0, .int .i64 0, .int .i64 0, .int .i64 0, .int .u64 0, .nils])).set h3.n (.cells 0 false [.int .i64 a, .int .i64 b, .int .i64 c, .int .i64 d, .int .u64 imm, .nils])).get h.n = .cells 0 false [.int .i64 0, .int .i64 0, .int .i64 0, .int .i64 0, .int .u64 0, .nils] := by
          rw [AHeap.get_set_ne _ _ (by omega), AHeap.get_push_ne _ _ (by omega)]; exact g30
        have nI : h3.n + 1 = ((h3.push (.cells 0 false [.int .i64 0, .int .i64 0, .int .i64 0, .int .i64 0, .int .u64 0, .nils])).set h3.n (.cells 0 false [.int .i64 a, .int .i64 b, .int .i64 c, .int .i64 d, .int .u64 imm, .nils])).n := by simp
        generalize (h3.push (.cells 0 false [.int .i64 0, .int .i64 0, .int .i64 0, .int .i64 0, .int .u64 0, .nils])).set h3.n (.cells 0 false [.int .i64 a, .int .i64 b, .int .i64 c, .int .i64 d, .int .u64 imm, .nils]) = hI at *
        have HI := H.next fI gIr hle3
        have W := rnum HI 24 16 (by omega)
        simp only [PR.ok_bind] at hQ
        cases hp3 : pnum t 24 16 q2 with
        | bad e2 p2 =>
          rw [hp3] at W hQ
          refine AM.callXI_of W (fun _ _ q => by cases q.1) ?_
          rintro x h2 ⟨hx, f2⟩
          cases hx
          simp -implicitDefEqProofs (disch := first | decide | assumption | omega | (simp -implicitDefEqProofs only [AM.RN]; first | done | omega) | fail) only [↓AM.RX, AM.tx_short, ↓AM.R0, AM.R1, AM.R2, Nat.reduceAdd, Nat.reduceLeDiff, Nat.reduceEqDiff, Int.reduceToNat, Nat.reduceLT, ↓reduceIte, Int.reduceEq, Int.reduceLT, Int.reduceLE]
          subst hQ
          exact ⟨rfl, fI.trans f2⟩
        | ok n p3 =>
          rw [hp3] at W hQ
          refine AM.callXI_of W ?_ (fun _ _ q => by obtain ⟨_, q, _⟩ := q; cases q)
          rintro x h4 ⟨x', hx, f4, g4, hle4, rfl, hn4⟩
          cases hx
          have g4I : h4.get h3.n = _ := (f4.get h3.n (by omega) (by simpa using Ne.symm hr3)).trans gI
          have g40 : h4.get h.n = _ := (f4.get h.n (by omega) (by simpa using Ne.symm hr1)).trans gI0
          have n4 : h3.n < h4.n := by have := f4.n; omega
          have f14 := fI.trans f4
          clear f3 f4 f13 fI f g1 g31 g0 g30 gI gI0 gIr g3 e6 g
          simp only [PR.ok_bind] at hQ
          simp -implicitDefEqProofs (disch := first | decide | assumption | omega | (simp -implicitDefEqProofs only [AM.RN]; first | done | omega) | fail) only [↓AM.RX, AM.tx_short, ↓AM.R0, AM.R1, AM.R2, Nat.reduceAdd, Nat.reduceLeDiff, Nat.reduceEqDiff, Int.reduceToNat, Nat.reduceLT, ↓reduceIte, Int.reduceEq, Int.reduceLT, Int.reduceLE]
          refine AM.loopX_of (fun k e h' => ∃ (l : List Nat) (q : Nat) (lv : AVal) (F : List Nat), k + l.length = n ∧ e.val 0 = .ptr r 0 0 ∧ e.val 2 = .ptr h.n 0 0 ∧ e.val 5 = .ptr h3.n 0 0 ∧ e.val 26 = .int .i64 n ∧ e.val 27 = .int .i64 l.length ∧
            h'.get h.n = .cells 0 false [.int .i64 0, .int .i64 0, .int .i64 0, .int .i64 0, .int .u64 0, .nils] ∧ h'.get h3.n = .cells 0 false [.int .i64 a, .int .i64 b, .int .i64 c, .int .i64 d, .int .u64 imm, lv] ∧ h3.n < h'.n ∧
            SlOf h' 1 encK lv (asK l) F ∧ (∀ j, j ∈ F → h3.n + 1 ≤ j) ∧ HFrame h h' [r] [r] ∧ h'.get r = .cells 0 false [v, .int .i64 q] ∧ q ≤ t.length ∧
            plist (pnum t 65535 1) n p3 = (plist (pnum t 65535 1) k q).bind fun l2 p => .ok (l ++ l2) p) n ?_ ?_
          · refine ⟨[], p3, .nils, [], ?_⟩
            simp -implicitDefEqProofs (disch := first | decide | assumption | omega | (simp -implicitDefEqProofs only [AM.RN]; first | done | omega) | fail) only [↓AM.RX, AM.tx_short, ↓AM.R0, AM.R1, AM.R2, Nat.reduceAdd, Nat.reduceLeDiff, Nat.reduceEqDiff, Int.reduceToNat, Nat.reduceLT, ↓reduceIte, Int.reduceEq, Int.reduceLT, Int.reduceLE, e0, e2]
            and_intros <;> first | omega | exact f14 | exact hle4 | exact rfl | exact g40 | exact g4I | exact g4 | exact SlOf.nil | (intro j hj; cases hj) | (cases plist (pnum t 65535 1) n p3 <;> rfl)
          · clear e0 e2 e3 g4I g40 n4 f14 g4 e
            rintro k e h' ⟨l, q, lv, F, hk, e0, e2, e5, e26, e27, g0, gI, hn', hs, hF, f, g, hq, heq2⟩
            have H' := H.next f g hq
            have hrF : r ∉ F := fun hm => by have := hF r hm; omega
            have h0F : h.n ∉ F := fun hm => by have := hF _ hm; omega
            have hIF : h3.n ∉ F := fun hm => by have := hF _ hm; omega
            simp -implicitDefEqProofs (disch := first | decide | assumption | omega | (simp -implicitDefEqProofs only [AM.RN]; first | done | omega) | fail) only [↓AM.RX, AM.tx_short, ↓AM.R0, AM.R1, AM.R2, Nat.reduceAdd, Nat.reduceLeDiff, Nat.reduceEqDiff, Int.reduceToNat, Nat.reduceLT, ↓reduceIte, Int.reduceEq, Int.reduceLT, Int.reduceLE, e0, e2, e5, e26, e27]
            refine AM.cX_bool (fun hb => ?_) (fun hb => ?_)
            · simp only [decide_eq_true_eq] at hb
              obtain ⟨k, rfl⟩ : ∃ m, k = m + 1 := ⟨k - 1, by omega⟩
              have hw : IntKind.i64.wrap ((l.length : Int) + 1) = ((l.length + 1 : Nat) : Int) := wrap64 (by omega) (by omega)
              have bo := hs.beq
              simp -implicitDefEqProofs (disch := first | decide | assumption | omega | (simp -implicitDefEqProofs only [AM.RN]; first | done | omega) | fail) only [↓AM.RX, AM.tx_short, ↓AM.R0, AM.R1, AM.R2, Nat.reduceAdd, Nat.reduceLeDiff, Nat.reduceEqDiff, Int.reduceToNat, Nat.reduceLT, ↓reduceIte, Int.reduceEq, Int.reduceLT, Int.reduceLE, e0, e2, e5, e26, e27, gI]
              have W := rnum H' 65535 1 (by omega)
              rw [plist_succ _ k q] at heq2
              cases hp2 : pnum t 65535 1 q with
              | bad e2 p2 =>
                rw [hp2] at W heq2
                refine AM.txCall_of W (fun _ _ q => by cases q.1) ?_
                rintro x h2 ⟨hx, f2⟩
                cases hx
                have g2I : h2.get h3.n = _ := (f2.get h3.n hn' (by simpa using Ne.symm hr3)).trans gI
                have n2 : h3.n < h2.n := by have := f2.n; omega
                refine ⟨rfl, ?_, ?_⟩
                · simp -implicitDefEqProofs (disch := first | decide | assumption | omega | (simp -implicitDefEqProofs only [AM.RN]; first | done | omega) | fail) only [↓AM.RX, AM.tx_short, ↓AM.R0, AM.R1, AM.R2, Nat.reduceAdd, Nat.reduceLeDiff, Nat.reduceEqDiff, Int.reduceToNat, Nat.reduceLT, ↓reduceIte, Int.reduceEq, Int.reduceLT, Int.reduceLE, g2I, bo]
                · simp -implicitDefEqProofs (disch := first | decide | assumption | omega | (simp -implicitDefEqProofs only [AM.RN]; first | done | omega) | fail) only [↓AM.RX, AM.tx_short, ↓AM.R0, AM.R1, AM.R2, Nat.reduceAdd, Nat.reduceLeDiff, Nat.reduceEqDiff, Int.reduceToNat, Nat.reduceLT, ↓reduceIte, Int.reduceEq, Int.reduceLT, Int.reduceLE]
                  subst hQ
                  rw [heq2]
                  exact ⟨rfl, f.trans f2⟩
              | ok m q2 =>
                rw [hp2] at W heq2
                refine AM.txCall_of W ?_ (fun _ _ q => by obtain ⟨_, q, _⟩ := q; cases q)
                rintro x h5 ⟨x', hx, f5, g5, hle5, rfl, hm⟩
                cases hx
                have hs5 := hs.frame f5.n fun j hj => f5.get j (hs.lt j hj) (by simp; intro e; exact hrF (e ▸ hj))
                have g5I : h5.get h3.n = _ := (f5.get h3.n hn' (by simpa using Ne.symm hr3)).trans gI
                have g50 : h5.get h.n = _ := (f5.get h.n (by omega) (by simpa using Ne.symm hr1)).trans g0
                have n5 : h3.n < h5.n := by have := f5.n; omega
                simp -implicitDefEqProofs (disch := first | decide | assumption | omega | (simp -implicitDefEqProofs only [AM.RN]; first | done | omega) | fail) only [↓AM.RX, AM.tx_short, ↓AM.R0, AM.R1, AM.R2, Nat.reduceAdd, Nat.reduceLeDiff, Nat.reduceEqDiff, Int.reduceToNat, Nat.reduceLT, ↓reduceIte, Int.reduceEq, Int.reduceLT, Int.reduceLE, e0, e2, e5, e26, e27]
                refine AM.txOp_of (hs5.app1 (fun _ => rfl) (fun _ => rfl) (by simp; omega) (m : Int) fun v' h6 F6 s6 f6 => ?_)
                obtain ⟨d1, d2⟩ := s6.rd.cells
                obtain ⟨f16, hF6⟩ := tmpF (n := h3.n + 1) (f.trans f5) f6 (by omega) (by omega) hF
                have g6I : h6.get h3.n = _ := (f6.get h3.n n5 hIF).trans g5I
                have g60 : h6.get h.n = _ := (f6.get h.n (by omega) h0F).trans g50
                have g6 : h6.get r = _ := (f6.get r (by omega) hrF).trans g5
                have n6 : h3.n < h6.n := by have := f6.n; omega
                simp -implicitDefEqProofs (disch := first | decide | assumption | omega | (simp -implicitDefEqProofs only [AM.RN]; first | done | omega) | fail) only [↓AM.RX, AM.tx_short, ↓AM.R0, AM.R1, AM.R2, Nat.reduceAdd, Nat.reduceLeDiff, Nat.reduceEqDiff, Int.reduceToNat, Nat.reduceLT, ↓reduceIte, Int.reduceEq, Int.reduceLT, Int.reduceLE, e0, e2, e5, e26, e27, g6I, g5I, gI, bo, d1, d2, hw]
                have heq3 : plist (pnum t 65535 1) n p3 = (plist (pnum t 65535 1) k q2).bind fun l2 p => .ok ((l ++ [m]) ++ l2) p := by
                  rw [heq2, PR.ok_bind, PR.bind_bind]
                  simp only [PR.ok_bind, List.append_assoc, List.cons_append, List.nil_append]
                have s7 : SlOf (h6.set h3.n (.cells 0 false [.int .i64 a, .int .i64 b, .int .i64 c, .int .i64 d, .int .u64 imm, v'])) 1 encK v' (asK (l ++ [m])) F6 := by
                  rw [show asK (l ++ [m]) = asK l ++ [(m : Int)] by simp [asK]]
                  exact s6.set (fun hm => by have := hF6 _ hm; omega) _
                have f17 := f16.setTmp (i := h3.n) (by omega) (.cells 0 false [.int .i64 a, .int .i64 b, .int .i64 c, .int .i64 d, .int .u64 imm, v'])
                refine ⟨k, by omega, l ++ [m], q2, v', F6, ?_⟩
                rw [List.length_append, List.length_cons, List.length_nil]
                and_intros <;> first | omega | exact g60 | exact s7 | exact hF6 | exact f17 | exact g6 | exact heq3 | rfl
            · simp only [decide_eq_false_iff_not] at hb
              have hk0 : k = 0 := by omega
              subst hk0
              rw [heq2] at hQ
              simp only [plist_zero, PR.ok_bind, List.append_nil] at hQ
              obtain ⟨d1, d2⟩ := hs.rd.cells
              simp -implicitDefEqProofs (disch := first | decide | assumption | omega | (simp -implicitDefEqProofs only [AM.RN]; first | done | omega) | fail) only [↓AM.RX, AM.tx_short, ↓AM.R0, AM.R1, AM.R2, Nat.reduceAdd, Nat.reduceLeDiff, Nat.reduceEqDiff, Int.reduceToNat, Nat.reduceLT, ↓reduceIte, Int.reduceEq, Int.reduceLT, Int.reduceLE, e0, e2, e5, e26, e27, gI, g0, d2]
              subst hQ
              refine ⟨_, rfl, f.setTmp (by omega) _, ?_, hq, [.int .i64 a, .int .i64 b, .int .i64 c, .int .i64 d, .int .u64 imm, lv], rfl, rfl, by simp only [List.all_cons, d2, AM.cell_int, List.all_nil, Bool.and_self], ?_, by simp; omega⟩
              · rw [AHeap.get_set_ne _ _ hr1]; exact g
              · exact fun M hM => ⟨by simp only; omega, lv, rfl, ((hs.set h0F _).masks fun j hj hm => by have h1 := hM j hm; have h2 := hF j hj; omega).rd⟩
end Go.Proofs.Ytfagngiceofoeaa.Cd

