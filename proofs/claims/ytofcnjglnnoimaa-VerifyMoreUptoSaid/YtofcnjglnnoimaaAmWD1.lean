/-
  What the functions of this seat do, on the machine: lemmas for the laws.
-/
import Derived.Test.YtofcnjglnnoimaaAmWK
import Derived.Test.YtofcnjglnnoimaaAmWD0
namespace Go.Proofs.Ytofcnjglnnoimaa.Vf
open Go Go.AM Go.Proofs.Ytofcnjglnnoimaa.AmGW
attribute [local irreducible] AM.wp AM.wpIs AM.wpTr AM.opI AM.gI AM.cI AM.trI AM.callI AM.fnI AM.trG AM.trOp AM.trCall AM.seqC AM.loopI
set_option maxRecDepth 100000
set_option linter.unusedVariables false
set_option linter.unusedSimpArgs false

def bodyF (p : PProg) (f : PFunc) (i : PIns) : Int :=
  if orB i.op [1, 48] = true then alikeF f.slots (fun k => decide (k = 0) || decide (k = 1)) [i.a] else
  if orB i.op [2] = true then alikeF f.slots (fun _ => true) [i.a, i.b] else
  if orB i.op [3, 4, 5, 6, 7, 8, 9, 10, 11, 12, 13, 14] = true then areF f.slots [(i.a, 0), (i.b, 0), (i.c, 0)] else
  if orB i.op [15, 16, 17, 18] = true then areF f.slots [(i.a, 1), (i.b, 1), (i.c, 1)] else
  if orB i.op [19, 20] = true then areF f.slots [(i.a, 0), (i.b, 1), (i.c, 1)] else
  if orB i.op [21] = true then areF f.slots [(i.a, 1), (i.b, 0)] else
  if orB i.op [22, 40] = true then (if i.op = 40 then areF f.slots [(i.a, 0), (i.b, 0)] else areF f.slots [(i.a, 0), (i.b, 1)]) else
  if orB i.op [23] = true then (if areF f.slots [(i.a, 0)] ≠ 0 then areF f.slots [(i.a, 0)] else alikeF f.slots (fun k => decide (16 ≤ k)) [i.b, i.c]) else
  if orB i.op [24, 25] = true then jumpF f i else
  if orB i.op [39, 46, 52] = true then areF f.slots [(i.a, 0)] else
  if orB i.op [47] = true then 0 else
  if orB i.op [49, 51] = true then areF f.slots [(i.a, 2), (i.b, 0)] else
  if orB i.op [50] = true then areF f.slots [(i.a, 0), (i.b, 2)] else
  if orB i.op [26, 27, 28, 29, 30, 31, 32, 33, 34] = true then memF p f.slots i else
  if orB i.op [35, 36, 37, 38] = true then callsF p f i else
  channelsF f.slots i
def insF (p : PProg) (f : PFunc) (i : PIns) : Int := if i.op < 1 ∨ 52 < i.op then 9 else if formF i ≠ 0 then formF i else bodyF p f i
theorem formF_len {i : PIns} (h : ¬ formF i ≠ 0) : i.list.length ≤ 24 := by
  rcases Nat.lt_or_ge 24 i.list.length with hl | hl
  · exact absurd (by unfold formF; split <;> simp [hl]) h
  · exact hl

set_option maxHeartbeats 8000000 in
theorem one {h : AHeap} {c : Nat} {p : PProg} {f : PFunc} {i : PIns} (C : CkR h c p f i) (H : Hs p f.slots) (T : Ht p) (hT : p.types.length ≤ 32) (HP : Hp p) :
    CallP AP 34 [.ptr c 0 0] h fun r h' => HFrame h h' [] [] ∧ r = .int .i64 (insF p f i) := by
  refine callP (rfl : Tr.get AP 34 = some A34) ?_
  generalize hQ : (fun (r : AVal) (h' : AHeap) => _) = Q
  have C0 := C
  obtain ⟨tv, gv, fv, sv, rv, cv, at_, lv, g, lt, s1, s2, s3, s4, s5, s6, hi, s7⟩ := C
  have cl := SlIn.cellv s7
  simp -implicitDefEqProofs (disch := first | decide | assumption | omega | (simp -implicitDefEqProofs only [AM.RN]; first | done | omega) | fail) only [AM.RGB, ↓AM.R0, AM.R1, AM.R2, Nat.reduceAdd, Nat.reduceLeDiff, Nat.reduceEqDiff, Int.reduceToNat, Nat.reduceLT, ↓reduceIte, Int.reduceEq, Int.reduceLT, Int.reduceLE, g]
  refine AM.cI_bool (fun hb => ?_) (fun hb => ?_)
  · simp -implicitDefEqProofs (disch := first | decide | assumption | omega | (simp -implicitDefEqProofs only [AM.RN]; first | done | omega) | fail) only [↓AM.R0, AM.R1, AM.R2, Nat.reduceAdd, Nat.reduceLeDiff, Nat.reduceEqDiff, Int.reduceToNat, Nat.reduceLT, ↓reduceIte, Int.reduceEq, Int.reduceLT, Int.reduceLE]
    simp only [Bool.or_eq_true, decide_eq_true_eq] at hb
    subst hQ
    exact ⟨HFrame.refl (by simp), by rw [insF, if_pos hb]⟩
  simp only [Bool.or_eq_false_iff, decide_eq_false_iff_not] at hb
  simp -implicitDefEqProofs (disch := first | decide | assumption | omega | (simp -implicitDefEqProofs only [AM.RN]; first | done | omega) | fail) only [↓AM.R0, AM.R1, AM.R2, Nat.reduceAdd, Nat.reduceLeDiff, Nat.reduceEqDiff, Int.reduceToNat, Nat.reduceLT, ↓reduceIte, Int.reduceEq, Int.reduceLT, Int.reduceLE, g]
  refine AM.callI_of (shape i.op h) ?_
  rintro r h1 ⟨rfl, rfl⟩
  simp -implicitDefEqProofs (disch := first | decide | assumption | omega | (simp -implicitDefEqProofs only [AM.RN]; first | done | omega) | fail) only [↓AM.R0, AM.R1, AM.R2, Nat.reduceAdd, Nat.reduceLeDiff, Nat.reduceEqDiff, Int.reduceToNat, Nat.reduceLT, ↓reduceIte, Int.reduceEq, Int.reduceLT, Int.reduceLE]
  refine AM.callI_of (plain C0) ?_
  rintro r h1 ⟨f1, rfl⟩
  simp -implicitDefEqProofs (disch := first | decide | assumption | omega | (simp -implicitDefEqProofs only [AM.RN]; first | done | omega) | fail) only [↓AM.R0, AM.R1, AM.R2, Nat.reduceAdd, Nat.reduceLeDiff, Nat.reduceEqDiff, Int.reduceToNat, Nat.reduceLT, ↓reduceIte, Int.reduceEq, Int.reduceLT, Int.reduceLE]
  refine AM.cI_bool (fun hc => ?_) (fun hc => ?_)
  · have hc' : formF i ≠ 0 := by simpa using hc
    simp -implicitDefEqProofs (disch := first | decide | assumption | omega | (simp -implicitDefEqProofs only [AM.RN]; first | done | omega) | fail) only [↓AM.R0, AM.R1, AM.R2, Nat.reduceAdd, Nat.reduceLeDiff, Nat.reduceEqDiff, Int.reduceToNat, Nat.reduceLT, ↓reduceIte, Int.reduceEq, Int.reduceLT, Int.reduceLE]
    subst hQ
    exact ⟨f1, by rw [insF, if_neg (by omega), if_pos hc']⟩
  have hc' : ¬ formF i ≠ 0 := by simpa using hc
  have hl := formF_len hc'
  have hm : insF p f i = bodyF p f i := by rw [insF, if_neg (by omega), if_neg hc']
  rw [hm] at hQ
  have g1 := (f1.get c lt (by simp)).trans g
  have lt1 : c < h1.n := by have := f1.n; omega
  simp -implicitDefEqProofs (disch := first | decide | assumption | omega | (simp -implicitDefEqProofs only [AM.RN]; first | done | omega) | fail) only [↓AM.R0, AM.R1, AM.R2, Nat.reduceAdd, Nat.reduceLeDiff, Nat.reduceEqDiff, Int.reduceToNat, Nat.reduceLT, ↓reduceIte, Int.reduceEq, Int.reduceLT, Int.reduceLE, g1, cl]
  have fT := (f1.pushTmp (.cells 0 false [.int .i64 0, .int .i64 0, .int .i64 0, .int .i64 0, .int .u64 0, .nils])).setTmp (i := h1.n) f1.n (.cells 0 false [.int .i64 i.op, .int .i64 i.a, .int .i64 i.b, .int .i64 i.c, .int .u64 i.imm, lv])
  have gB := AHeap.get_set_same (h1.push (.cells 0 false [.int .i64 0, .int .i64 0, .int .i64 0, .int .i64 0, .int .u64 0, .nils])) h1.n (.cells 0 false [.int .i64 i.op, .int .i64 i.a, .int .i64 i.b, .int .i64 i.c, .int .u64 i.imm, lv])
  have hn0 : h1.n < ((h1.push (.cells 0 false [.int .i64 0, .int .i64 0, .int .i64 0, .int .i64 0, .int .u64 0, .nils])).set h1.n (.cells 0 false [.int .i64 i.op, .int .i64 i.a, .int .i64 i.b, .int .i64 i.c, .int .u64 i.imm, lv])).n := by simp
  generalize ((h1.push (.cells 0 false [.int .i64 0, .int .i64 0, .int .i64 0, .int .i64 0, .int .u64 0, .nils])).set h1.n (.cells 0 false [.int .i64 i.op, .int .i64 i.a, .int .i64 i.b, .int .i64 i.c, .int .u64 i.imm, lv])) = hT2 at *
  have C2 := C0.keep fT
  have R2 : InsR hT2 i [.int .i64 i.op, .int .i64 i.a, .int .i64 i.b, .int .i64 i.c, .int .u64 i.imm, lv] := ⟨hi, lv, rfl, s7.keep fT⟩
  obtain ⟨X, hX⟩ : ∃ X, X = bodyF p f i := ⟨_, rfl⟩
  rw [← hX] at hQ
  rw [bodyF] at hX
  refine cI_or (t := 40) (s := 39) (x := i.op) (by decide) [(42, 48)] (by simp -implicitDefEqProofs (disch := first | decide | assumption | omega | (simp -implicitDefEqProofs only [AM.RN]; first | done | omega) | fail) only [↓AM.R0, AM.R1, AM.R2, Nat.reduceAdd, Nat.reduceLeDiff, Nat.reduceEqDiff, Int.reduceToNat, Nat.reduceLT, ↓reduceIte, Int.reduceEq, Int.reduceLT, Int.reduceLE, gB]) (by simp -implicitDefEqProofs (disch := first | decide | assumption | omega | (simp -implicitDefEqProofs only [AM.RN]; first | done | omega) | fail) only [↓AM.R0, AM.R1, AM.R2, Nat.reduceAdd, Nat.reduceLeDiff, Nat.reduceEqDiff, Int.reduceToNat, Nat.reduceLT, ↓reduceIte, Int.reduceEq, Int.reduceLT, Int.reduceLE, gB]) (by decide) ?_
  intro e' ht hk
  have e0' : Env.val e' 0 = .ptr c 0 0 := (hk 0 (by decide) (by decide)).trans (by simp -implicitDefEqProofs (disch := first | decide | assumption | omega | (simp -implicitDefEqProofs only [AM.RN]; first | done | omega) | fail) only [↓AM.R0, AM.R1, AM.R2, Nat.reduceAdd, Nat.reduceLeDiff, Nat.reduceEqDiff, Int.reduceToNat, Nat.reduceLT, ↓reduceIte, Int.reduceEq, Int.reduceLT, Int.reduceLE, gB])
  have e4' : Env.val e' 4 = .ptr h1.n 0 0 := (hk 4 (by decide) (by decide)).trans (by simp -implicitDefEqProofs (disch := first | decide | assumption | omega | (simp -implicitDefEqProofs only [AM.RN]; first | done | omega) | fail) only [↓AM.R0, AM.R1, AM.R2, Nat.reduceAdd, Nat.reduceLeDiff, Nat.reduceEqDiff, Int.reduceToNat, Nat.reduceLT, ↓reduceIte, Int.reduceEq, Int.reduceLT, Int.reduceLE, gB])
  have e39' : Env.val e' 39 = .int .i64 i.op := (hk 39 (by decide) (by decide)).trans (by simp -implicitDefEqProofs (disch := first | decide | assumption | omega | (simp -implicitDefEqProofs only [AM.RN]; first | done | omega) | fail) only [↓AM.R0, AM.R1, AM.R2, Nat.reduceAdd, Nat.reduceLeDiff, Nat.reduceEqDiff, Int.reduceToNat, Nat.reduceLT, ↓reduceIte, Int.reduceEq, Int.reduceLT, Int.reduceLE, gB])
  clear hk
  try clear e0
  have e0 := e0'
  clear e0'
  try clear e4
  have e4 := e4'
  clear e4'
  try clear e39
  have e39 := e39'
  clear e39'
  simp -implicitDefEqProofs (disch := first | decide | assumption | omega | (simp -implicitDefEqProofs only [AM.RN]; first | done | omega) | fail) only [↓AM.R0, AM.R1, AM.R2, Nat.reduceAdd, Nat.reduceLeDiff, Nat.reduceEqDiff, Int.reduceToNat, Nat.reduceLT, ↓reduceIte, Int.reduceEq, Int.reduceLT, Int.reduceLE, ht]
  refine AM.cI_bool (fun hb => ?_) (fun hb => ?_)
  · have m : orB i.op [1, 48] = true := hb
    clear hb
    rw [if_pos m] at hX
    simp -implicitDefEqProofs (disch := first | decide | assumption | omega | (simp -implicitDefEqProofs only [AM.RN]; first | done | omega) | fail) only [↓AM.R0, AM.R1, AM.R2, Nat.reduceAdd, Nat.reduceLeDiff, Nat.reduceEqDiff, Int.reduceToNat, Nat.reduceLT, ↓reduceIte, Int.reduceEq, Int.reduceLT, Int.reduceLE, e0, e4, gB, AM.a_buildSlice, List.range, List.range.loop, List.getD_cons_zero, Nat.mod_one]
    refine AM.callI_of (alike1 C2 _ _ 54 rfl number i.a) ?_
    rintro r h3 ⟨f3, rfl⟩
    simp -implicitDefEqProofs (disch := first | decide | assumption | omega | (simp -implicitDefEqProofs only [AM.RN]; first | done | omega) | fail) only [↓AM.R0, AM.R1, AM.R2, Nat.reduceAdd, Nat.reduceLeDiff, Nat.reduceEqDiff, Int.reduceToNat, Nat.reduceLT, ↓reduceIte, Int.reduceEq, Int.reduceLT, Int.reduceLE]
    subst hQ
    exact ⟨fT.trans f3, by rw [hX]⟩
  have m : orB i.op [1, 48] = false := hb
  clear hb
  rw [if_neg (by simp [m])] at hX
  clear m
  clear ht
  simp -implicitDefEqProofs (disch := first | decide | assumption | omega | (simp -implicitDefEqProofs only [AM.RN]; first | done | omega) | fail) only [↓AM.R0, AM.R1, AM.R2, Nat.reduceAdd, Nat.reduceLeDiff, Nat.reduceEqDiff, Int.reduceToNat, Nat.reduceLT, ↓reduceIte, Int.reduceEq, Int.reduceLT, Int.reduceLE, e0, e4, e39]
  refine AM.cI_bool (fun hb => ?_) (fun hb => ?_)
  · have m : orB i.op [2] = true := (Bool.or_false _).trans hb
    clear hb
    rw [if_pos m] at hX
    simp -implicitDefEqProofs (disch := first | decide | assumption | omega | (simp -implicitDefEqProofs only [AM.RN]; first | done | omega) | fail) only [↓AM.R0, AM.R1, AM.R2, Nat.reduceAdd, Nat.reduceLeDiff, Nat.reduceEqDiff, Int.reduceToNat, Nat.reduceLT, ↓reduceIte, Int.reduceEq, Int.reduceLT, Int.reduceLE, e0, e4, gB, AM.a_buildSlice, List.range, List.range.loop, List.getD_cons_zero, Nat.mod_one]
    refine AM.callI_of (alike2 C2 _ _ 55 rfl any i.a i.b) ?_
    rintro r h3 ⟨f3, rfl⟩
    simp -implicitDefEqProofs (disch := first | decide | assumption | omega | (simp -implicitDefEqProofs only [AM.RN]; first | done | omega) | fail) only [↓AM.R0, AM.R1, AM.R2, Nat.reduceAdd, Nat.reduceLeDiff, Nat.reduceEqDiff, Int.reduceToNat, Nat.reduceLT, ↓reduceIte, Int.reduceEq, Int.reduceLT, Int.reduceLE]
    subst hQ
    exact ⟨fT.trans f3, by rw [hX]⟩
  have m : orB i.op [2] = false := (Bool.or_false _).trans hb
  clear hb
  rw [if_neg (by simp [m])] at hX
  clear m
  simp -implicitDefEqProofs (disch := first | decide | assumption | omega | (simp -implicitDefEqProofs only [AM.RN]; first | done | omega) | fail) only [↓AM.R0, AM.R1, AM.R2, Nat.reduceAdd, Nat.reduceLeDiff, Nat.reduceEqDiff, Int.reduceToNat, Nat.reduceLT, ↓reduceIte, Int.reduceEq, Int.reduceLT, Int.reduceLE, e0, e4, e39]
  refine cI_or (t := 57) (s := 39) (x := i.op) (by decide) [(59, 4), (60, 5), (61, 6), (62, 7), (63, 8), (64, 9), (65, 10), (66, 11), (67, 12), (68, 13), (69, 14)] (by simp -implicitDefEqProofs (disch := first | decide | assumption | omega | (simp -implicitDefEqProofs only [AM.RN]; first | done | omega) | fail) only [↓AM.R0, AM.R1, AM.R2, Nat.reduceAdd, Nat.reduceLeDiff, Nat.reduceEqDiff, Int.reduceToNat, Nat.reduceLT, ↓reduceIte, Int.reduceEq, Int.reduceLT, Int.reduceLE, e0, e4, e39, gB]) (by simp -implicitDefEqProofs (disch := first | decide | assumption | omega | (simp -implicitDefEqProofs only [AM.RN]; first | done | omega) | fail) only [↓AM.R0, AM.R1, AM.R2, Nat.reduceAdd, Nat.reduceLeDiff, Nat.reduceEqDiff, Int.reduceToNat, Nat.reduceLT, ↓reduceIte, Int.reduceEq, Int.reduceLT, Int.reduceLE, e0, e4, e39, gB]) (by decide) ?_
  intro e' ht hk
  have e0' : Env.val e' 0 = .ptr c 0 0 := (hk 0 (by decide) (by decide)).trans (by simp -implicitDefEqProofs (disch := first | decide | assumption | omega | (simp -implicitDefEqProofs only [AM.RN]; first | done | omega) | fail) only [↓AM.R0, AM.R1, AM.R2, Nat.reduceAdd, Nat.reduceLeDiff, Nat.reduceEqDiff, Int.reduceToNat, Nat.reduceLT, ↓reduceIte, Int.reduceEq, Int.reduceLT, Int.reduceLE, e0, e4, e39, gB])
  have e4' : Env.val e' 4 = .ptr h1.n 0 0 := (hk 4 (by decide) (by decide)).trans (by simp -implicitDefEqProofs (disch := first | decide | assumption | omega | (simp -implicitDefEqProofs only [AM.RN]; first | done | omega) | fail) only [↓AM.R0, AM.R1, AM.R2, Nat.reduceAdd, Nat.reduceLeDiff, Nat.reduceEqDiff, Int.reduceToNat, Nat.reduceLT, ↓reduceIte, Int.reduceEq, Int.reduceLT, Int.reduceLE, e0, e4, e39, gB])
  have e39' : Env.val e' 39 = .int .i64 i.op := (hk 39 (by decide) (by decide)).trans (by simp -implicitDefEqProofs (disch := first | decide | assumption | omega | (simp -implicitDefEqProofs only [AM.RN]; first | done | omega) | fail) only [↓AM.R0, AM.R1, AM.R2, Nat.reduceAdd, Nat.reduceLeDiff, Nat.reduceEqDiff, Int.reduceToNat, Nat.reduceLT, ↓reduceIte, Int.reduceEq, Int.reduceLT, Int.reduceLE, e0, e4, e39, gB])
  clear hk
  try clear e0
  have e0 := e0'
  clear e0'
  try clear e4
  have e4 := e4'
  clear e4'
  try clear e39
  have e39 := e39'
  clear e39'
  simp -implicitDefEqProofs (disch := first | decide | assumption | omega | (simp -implicitDefEqProofs only [AM.RN]; first | done | omega) | fail) only [↓AM.R0, AM.R1, AM.R2, Nat.reduceAdd, Nat.reduceLeDiff, Nat.reduceEqDiff, Int.reduceToNat, Nat.reduceLT, ↓reduceIte, Int.reduceEq, Int.reduceLT, Int.reduceLE, ht]
  refine AM.cI_bool (fun hb => ?_) (fun hb => ?_)
  · have m : orB i.op [3, 4, 5, 6, 7, 8, 9, 10, 11, 12, 13, 14] = true := hb
    clear hb
    rw [if_pos m] at hX
    simp -implicitDefEqProofs (disch := first | decide | assumption | omega | (simp -implicitDefEqProofs only [AM.RN]; first | done | omega) | fail) only [↓AM.R0, AM.R1, AM.R2, Nat.reduceAdd, Nat.reduceLeDiff, Nat.reduceEqDiff, Int.reduceToNat, Nat.reduceLT, ↓reduceIte, Int.reduceEq, Int.reduceLT, Int.reduceLE, e0, e4, gB, AM.a_buildSlice, List.range, List.range.loop, List.getD_cons_zero, Nat.mod_one]
    refine AM.callI_of (are3 C2 i.a 0 i.b 0 i.c 0) ?_
    rintro r h3 ⟨f3, rfl⟩
    simp -implicitDefEqProofs (disch := first | decide | assumption | omega | (simp -implicitDefEqProofs only [AM.RN]; first | done | omega) | fail) only [↓AM.R0, AM.R1, AM.R2, Nat.reduceAdd, Nat.reduceLeDiff, Nat.reduceEqDiff, Int.reduceToNat, Nat.reduceLT, ↓reduceIte, Int.reduceEq, Int.reduceLT, Int.reduceLE]
    subst hQ
    exact ⟨fT.trans f3, by rw [hX]⟩
  have m : orB i.op [3, 4, 5, 6, 7, 8, 9, 10, 11, 12, 13, 14] = false := hb
  clear hb
  rw [if_neg (by simp [m])] at hX
  clear m
  clear ht
  simp -implicitDefEqProofs (disch := first | decide | assumption | omega | (simp -implicitDefEqProofs only [AM.RN]; first | done | omega) | fail) only [↓AM.R0, AM.R1, AM.R2, Nat.reduceAdd, Nat.reduceLeDiff, Nat.reduceEqDiff, Int.reduceToNat, Nat.reduceLT, ↓reduceIte, Int.reduceEq, Int.reduceLT, Int.reduceLE, e0, e4, e39]
  refine cI_or (t := 79) (s := 39) (x := i.op) (by decide) [(81, 16), (82, 17), (83, 18)] (by simp -implicitDefEqProofs (disch := first | decide | assumption | omega | (simp -implicitDefEqProofs only [AM.RN]; first | done | omega) | fail) only [↓AM.R0, AM.R1, AM.R2, Nat.reduceAdd, Nat.reduceLeDiff, Nat.reduceEqDiff, Int.reduceToNat, Nat.reduceLT, ↓reduceIte, Int.reduceEq, Int.reduceLT, Int.reduceLE, e0, e4, e39, gB]) (by simp -implicitDefEqProofs (disch := first | decide | assumption | omega | (simp -implicitDefEqProofs only [AM.RN]; first | done | omega) | fail) only [↓AM.R0, AM.R1, AM.R2, Nat.reduceAdd, Nat.reduceLeDiff, Nat.reduceEqDiff, Int.reduceToNat, Nat.reduceLT, ↓reduceIte, Int.reduceEq, Int.reduceLT, Int.reduceLE, e0, e4, e39, gB]) (by decide) ?_
  intro e' ht hk
  have e0' : Env.val e' 0 = .ptr c 0 0 := (hk 0 (by decide) (by decide)).trans (by simp -implicitDefEqProofs (disch := first | decide | assumption | omega | (simp -implicitDefEqProofs only [AM.RN]; first | done | omega) | fail) only [↓AM.R0, AM.R1, AM.R2, Nat.reduceAdd, Nat.reduceLeDiff, Nat.reduceEqDiff, Int.reduceToNat, Nat.reduceLT, ↓reduceIte, Int.reduceEq, Int.reduceLT, Int.reduceLE, e0, e4, e39, gB])
  have e4' : Env.val e' 4 = .ptr h1.n 0 0 := (hk 4 (by decide) (by decide)).trans (by simp -implicitDefEqProofs (disch := first | decide | assumption | omega | (simp -implicitDefEqProofs only [AM.RN]; first | done | omega) | fail) only [↓AM.R0, AM.R1, AM.R2, Nat.reduceAdd, Nat.reduceLeDiff, Nat.reduceEqDiff, Int.reduceToNat, Nat.reduceLT, ↓reduceIte, Int.reduceEq, Int.reduceLT, Int.reduceLE, e0, e4, e39, gB])
  have e39' : Env.val e' 39 = .int .i64 i.op := (hk 39 (by decide) (by decide)).trans (by simp -implicitDefEqProofs (disch := first | decide | assumption | omega | (simp -implicitDefEqProofs only [AM.RN]; first | done | omega) | fail) only [↓AM.R0, AM.R1, AM.R2, Nat.reduceAdd, Nat.reduceLeDiff, Nat.reduceEqDiff, Int.reduceToNat, Nat.reduceLT, ↓reduceIte, Int.reduceEq, Int.reduceLT, Int.reduceLE, e0, e4, e39, gB])
  clear hk
  try clear e0
  have e0 := e0'
  clear e0'
  try clear e4
  have e4 := e4'
  clear e4'
  try clear e39
  have e39 := e39'
  clear e39'
  simp -implicitDefEqProofs (disch := first | decide | assumption | omega | (simp -implicitDefEqProofs only [AM.RN]; first | done | omega) | fail) only [↓AM.R0, AM.R1, AM.R2, Nat.reduceAdd, Nat.reduceLeDiff, Nat.reduceEqDiff, Int.reduceToNat, Nat.reduceLT, ↓reduceIte, Int.reduceEq, Int.reduceLT, Int.reduceLE, ht]
  refine AM.cI_bool (fun hb => ?_) (fun hb => ?_)
  · have m : orB i.op [15, 16, 17, 18] = true := hb
    clear hb
    rw [if_pos m] at hX
    simp -implicitDefEqProofs (disch := first | decide | assumption | omega | (simp -implicitDefEqProofs only [AM.RN]; first | done | omega) | fail) only [↓AM.R0, AM.R1, AM.R2, Nat.reduceAdd, Nat.reduceLeDiff, Nat.reduceEqDiff, Int.reduceToNat, Nat.reduceLT, ↓reduceIte, Int.reduceEq, Int.reduceLT, Int.reduceLE, e0, e4, gB, AM.a_buildSlice, List.range, List.range.loop, List.getD_cons_zero, Nat.mod_one]
    refine AM.callI_of (are3 C2 i.a 1 i.b 1 i.c 1) ?_
    rintro r h3 ⟨f3, rfl⟩
    simp -implicitDefEqProofs (disch := first | decide | assumption | omega | (simp -implicitDefEqProofs only [AM.RN]; first | done | omega) | fail) only [↓AM.R0, AM.R1, AM.R2, Nat.reduceAdd, Nat.reduceLeDiff, Nat.reduceEqDiff, Int.reduceToNat, Nat.reduceLT, ↓reduceIte, Int.reduceEq, Int.reduceLT, Int.reduceLE]
    subst hQ
    exact ⟨fT.trans f3, by rw [hX]⟩
  have m : orB i.op [15, 16, 17, 18] = false := hb
  clear hb
  rw [if_neg (by simp [m])] at hX
  clear m
  clear ht
  simp -implicitDefEqProofs (disch := first | decide | assumption | omega | (simp -implicitDefEqProofs only [AM.RN]; first | done | omega) | fail) only [↓AM.R0, AM.R1, AM.R2, Nat.reduceAdd, Nat.reduceLeDiff, Nat.reduceEqDiff, Int.reduceToNat, Nat.reduceLT, ↓reduceIte, Int.reduceEq, Int.reduceLT, Int.reduceLE, e0, e4, e39]
  refine cI_or (t := 93) (s := 39) (x := i.op) (by decide) [(95, 20)] (by simp -implicitDefEqProofs (disch := first | decide | assumption | omega | (simp -implicitDefEqProofs only [AM.RN]; first | done | omega) | fail) only [↓AM.R0, AM.R1, AM.R2, Nat.reduceAdd, Nat.reduceLeDiff, Nat.reduceEqDiff, Int.reduceToNat, Nat.reduceLT, ↓reduceIte, Int.reduceEq, Int.reduceLT, Int.reduceLE, e0, e4, e39, gB]) (by simp -implicitDefEqProofs (disch := first | decide | assumption | omega | (simp -implicitDefEqProofs only [AM.RN]; first | done | omega) | fail) only [↓AM.R0, AM.R1, AM.R2, Nat.reduceAdd, Nat.reduceLeDiff, Nat.reduceEqDiff, Int.reduceToNat, Nat.reduceLT, ↓reduceIte, Int.reduceEq, Int.reduceLT, Int.reduceLE, e0, e4, e39, gB]) (by decide) ?_
  intro e' ht hk
  have e0' : Env.val e' 0 = .ptr c 0 0 := (hk 0 (by decide) (by decide)).trans (by simp -implicitDefEqProofs (disch := first | decide | assumption | omega | (simp -implicitDefEqProofs only [AM.RN]; first | done | omega) | fail) only [↓AM.R0, AM.R1, AM.R2, Nat.reduceAdd, Nat.reduceLeDiff, Nat.reduceEqDiff, Int.reduceToNat, Nat.reduceLT, ↓reduceIte, Int.reduceEq, Int.reduceLT, Int.reduceLE, e0, e4, e39, gB])
  have e4' : Env.val e' 4 = .ptr h1.n 0 0 := (hk 4 (by decide) (by decide)).trans (by simp -implicitDefEqProofs (disch := first | decide | assumption | omega | (simp -implicitDefEqProofs only [AM.RN]; first | done | omega) | fail) only [↓AM.R0, AM.R1, AM.R2, Nat.reduceAdd, Nat.reduceLeDiff, Nat.reduceEqDiff, Int.reduceToNat, Nat.reduceLT, ↓reduceIte, Int.reduceEq, Int.reduceLT, Int.reduceLE, e0, e4, e39, gB])
  have e39' : Env.val e' 39 = .int .i64 i.op := (hk 39 (by decide) (by decide)).trans (by simp -implicitDefEqProofs (disch := first | decide | assumption | omega | (simp -implicitDefEqProofs only [AM.RN]; first | done | omega) | fail) only [↓AM.R0, AM.R1, AM.R2, Nat.reduceAdd, Nat.reduceLeDiff, Nat.reduceEqDiff, Int.reduceToNat, Nat.reduceLT, ↓reduceIte, Int.reduceEq, Int.reduceLT, Int.reduceLE, e0, e4, e39, gB])
  clear hk
  try clear e0
  have e0 := e0'
  clear e0'
  try clear e4
  have e4 := e4'
  clear e4'
  try clear e39
  have e39 := e39'
  clear e39'
  simp -implicitDefEqProofs (disch := first | decide | assumption | omega | (simp -implicitDefEqProofs only [AM.RN]; first | done | omega) | fail) only [↓AM.R0, AM.R1, AM.R2, Nat.reduceAdd, Nat.reduceLeDiff, Nat.reduceEqDiff, Int.reduceToNat, Nat.reduceLT, ↓reduceIte, Int.reduceEq, Int.reduceLT, Int.reduceLE, ht]
  refine AM.cI_bool (fun hb => ?_) (fun hb => ?_)
  · have m : orB i.op [19, 20] = true := hb
    clear hb
    rw [if_pos m] at hX
    simp -implicitDefEqProofs (disch := first | decide | assumption | omega | (simp -implicitDefEqProofs only [AM.RN]; first | done | omega) | fail) only [↓AM.R0, AM.R1, AM.R2, Nat.reduceAdd, Nat.reduceLeDiff, Nat.reduceEqDiff, Int.reduceToNat, Nat.reduceLT, ↓reduceIte, Int.reduceEq, Int.reduceLT, Int.reduceLE, e0, e4, gB, AM.a_buildSlice, List.range, List.range.loop, List.getD_cons_zero, Nat.mod_one]
    refine AM.callI_of (are3 C2 i.a 0 i.b 1 i.c 1) ?_
    rintro r h3 ⟨f3, rfl⟩
    simp -implicitDefEqProofs (disch := first | decide | assumption | omega | (simp -implicitDefEqProofs only [AM.RN]; first | done | omega) | fail) only [↓AM.R0, AM.R1, AM.R2, Nat.reduceAdd, Nat.reduceLeDiff, Nat.reduceEqDiff, Int.reduceToNat, Nat.reduceLT, ↓reduceIte, Int.reduceEq, Int.reduceLT, Int.reduceLE]
    subst hQ
    exact ⟨fT.trans f3, by rw [hX]⟩
  have m : orB i.op [19, 20] = false := hb
  clear hb
  rw [if_neg (by simp [m])] at hX
  clear m
  clear ht
  simp -implicitDefEqProofs (disch := first | decide | assumption | omega | (simp -implicitDefEqProofs only [AM.RN]; first | done | omega) | fail) only [↓AM.R0, AM.R1, AM.R2, Nat.reduceAdd, Nat.reduceLeDiff, Nat.reduceEqDiff, Int.reduceToNat, Nat.reduceLT, ↓reduceIte, Int.reduceEq, Int.reduceLT, Int.reduceLE, e0, e4, e39]
  refine AM.cI_bool (fun hb => ?_) (fun hb => ?_)
  · have m : orB i.op [21] = true := (Bool.or_false _).trans hb
    clear hb
    rw [if_pos m] at hX
    simp -implicitDefEqProofs (disch := first | decide | assumption | omega | (simp -implicitDefEqProofs only [AM.RN]; first | done | omega) | fail) only [↓AM.R0, AM.R1, AM.R2, Nat.reduceAdd, Nat.reduceLeDiff, Nat.reduceEqDiff, Int.reduceToNat, Nat.reduceLT, ↓reduceIte, Int.reduceEq, Int.reduceLT, Int.reduceLE, e0, e4, gB, AM.a_buildSlice, List.range, List.range.loop, List.getD_cons_zero, Nat.mod_one]
    refine AM.callI_of (are2 C2 i.a 1 i.b 0) ?_
    rintro r h3 ⟨f3, rfl⟩
    simp -implicitDefEqProofs (disch := first | decide | assumption | omega | (simp -implicitDefEqProofs only [AM.RN]; first | done | omega) | fail) only [↓AM.R0, AM.R1, AM.R2, Nat.reduceAdd, Nat.reduceLeDiff, Nat.reduceEqDiff, Int.reduceToNat, Nat.reduceLT, ↓reduceIte, Int.reduceEq, Int.reduceLT, Int.reduceLE]
    subst hQ
    exact ⟨fT.trans f3, by rw [hX]⟩
  have m : orB i.op [21] = false := (Bool.or_false _).trans hb
  clear hb
  rw [if_neg (by simp [m])] at hX
  clear m
  simp -implicitDefEqProofs (disch := first | decide | assumption | omega | (simp -implicitDefEqProofs only [AM.RN]; first | done | omega) | fail) only [↓AM.R0, AM.R1, AM.R2, Nat.reduceAdd, Nat.reduceLeDiff, Nat.reduceEqDiff, Int.reduceToNat, Nat.reduceLT, ↓reduceIte, Int.reduceEq, Int.reduceLT, Int.reduceLE, e0, e4, e39]
  refine cI_or (t := 114) (s := 39) (x := i.op) (by decide) [(116, 40)] (by simp -implicitDefEqProofs (disch := first | decide | assumption | omega | (simp -implicitDefEqProofs only [AM.RN]; first | done | omega) | fail) only [↓AM.R0, AM.R1, AM.R2, Nat.reduceAdd, Nat.reduceLeDiff, Nat.reduceEqDiff, Int.reduceToNat, Nat.reduceLT, ↓reduceIte, Int.reduceEq, Int.reduceLT, Int.reduceLE, e0, e4, e39, gB]) (by simp -implicitDefEqProofs (disch := first | decide | assumption | omega | (simp -implicitDefEqProofs only [AM.RN]; first | done | omega) | fail) only [↓AM.R0, AM.R1, AM.R2, Nat.reduceAdd, Nat.reduceLeDiff, Nat.reduceEqDiff, Int.reduceToNat, Nat.reduceLT, ↓reduceIte, Int.reduceEq, Int.reduceLT, Int.reduceLE, e0, e4, e39, gB]) (by decide) ?_
  intro e' ht hk
  have e0' : Env.val e' 0 = .ptr c 0 0 := (hk 0 (by decide) (by decide)).trans (by simp -implicitDefEqProofs (disch := first | decide | assumption | omega | (simp -implicitDefEqProofs only [AM.RN]; first | done | omega) | fail) only [↓AM.R0, AM.R1, AM.R2, Nat.reduceAdd, Nat.reduceLeDiff, Nat.reduceEqDiff, Int.reduceToNat, Nat.reduceLT, ↓reduceIte, Int.reduceEq, Int.reduceLT, Int.reduceLE, e0, e4, e39, gB])
  have e4' : Env.val e' 4 = .ptr h1.n 0 0 := (hk 4 (by decide) (by decide)).trans (by simp -implicitDefEqProofs (disch := first | decide | assumption | omega | (simp -implicitDefEqProofs only [AM.RN]; first | done | omega) | fail) only [↓AM.R0, AM.R1, AM.R2, Nat.reduceAdd, Nat.reduceLeDiff, Nat.reduceEqDiff, Int.reduceToNat, Nat.reduceLT, ↓reduceIte, Int.reduceEq, Int.reduceLT, Int.reduceLE, e0, e4, e39, gB])
  have e39' : Env.val e' 39 = .int .i64 i.op := (hk 39 (by decide) (by decide)).trans (by simp -implicitDefEqProofs (disch := first | decide | assumption | omega | (simp -implicitDefEqProofs only [AM.RN]; first | done | omega) | fail) only [↓AM.R0, AM.R1, AM.R2, Nat.reduceAdd, Nat.reduceLeDiff, Nat.reduceEqDiff, Int.reduceToNat, Nat.reduceLT, ↓reduceIte, Int.reduceEq, Int.reduceLT, Int.reduceLE, e0, e4, e39, gB])
  clear hk
  try clear e0
  have e0 := e0'
  clear e0'
  try clear e4
  have e4 := e4'
  clear e4'
  try clear e39
  have e39 := e39'
  clear e39'
  simp -implicitDefEqProofs (disch := first | decide | assumption | omega | (simp -implicitDefEqProofs only [AM.RN]; first | done | omega) | fail) only [↓AM.R0, AM.R1, AM.R2, Nat.reduceAdd, Nat.reduceLeDiff, Nat.reduceEqDiff, Int.reduceToNat, Nat.reduceLT, ↓reduceIte, Int.reduceEq, Int.reduceLT, Int.reduceLE, ht]
  refine AM.cI_bool (fun hb => ?_) (fun hb => ?_)
  · have m : orB i.op [22, 40] = true := hb
    clear hb
    rw [if_pos m] at hX
    simp -implicitDefEqProofs (disch := first | decide | assumption | omega | (simp -implicitDefEqProofs only [AM.RN]; first | done | omega) | fail) only [↓AM.R0, AM.R1, AM.R2, Nat.reduceAdd, Nat.reduceLeDiff, Nat.reduceEqDiff, Int.reduceToNat, Nat.reduceLT, ↓reduceIte, Int.reduceEq, Int.reduceLT, Int.reduceLE, e0, e4, gB]
    refine AM.cI_bool (fun hd => ?_) (fun hd => ?_)
    · simp only [decide_eq_true_eq] at hd
      rw [if_pos hd] at hX
      simp -implicitDefEqProofs (disch := first | decide | assumption | omega | (simp -implicitDefEqProofs only [AM.RN]; first | done | omega) | fail) only [↓AM.R0, AM.R1, AM.R2, Nat.reduceAdd, Nat.reduceLeDiff, Nat.reduceEqDiff, Int.reduceToNat, Nat.reduceLT, ↓reduceIte, Int.reduceEq, Int.reduceLT, Int.reduceLE, e0, e4, gB, AM.a_buildSlice, List.range, List.range.loop, List.getD_cons_zero, Nat.mod_one]
      refine AM.callI_of (are2 C2 i.a 0 i.b 0) ?_
      rintro r h3 ⟨f3, rfl⟩
      simp -implicitDefEqProofs (disch := first | decide | assumption | omega | (simp -implicitDefEqProofs only [AM.RN]; first | done | omega) | fail) only [↓AM.R0, AM.R1, AM.R2, Nat.reduceAdd, Nat.reduceLeDiff, Nat.reduceEqDiff, Int.reduceToNat, Nat.reduceLT, ↓reduceIte, Int.reduceEq, Int.reduceLT, Int.reduceLE]
      subst hQ
      exact ⟨fT.trans f3, by rw [hX]⟩
    · simp only [decide_eq_false_iff_not] at hd
      rw [if_neg hd] at hX
      simp -implicitDefEqProofs (disch := first | decide | assumption | omega | (simp -implicitDefEqProofs only [AM.RN]; first | done | omega) | fail) only [↓AM.R0, AM.R1, AM.R2, Nat.reduceAdd, Nat.reduceLeDiff, Nat.reduceEqDiff, Int.reduceToNat, Nat.reduceLT, ↓reduceIte, Int.reduceEq, Int.reduceLT, Int.reduceLE, e0, e4, gB, AM.a_buildSlice, List.range, List.range.loop, List.getD_cons_zero, Nat.mod_one]
      refine AM.callI_of (are2 C2 i.a 0 i.b 1) ?_
      rintro r h3 ⟨f3, rfl⟩
      simp -implicitDefEqProofs (disch := first | decide | assumption | omega | (simp -implicitDefEqProofs only [AM.RN]; first | done | omega) | fail) only [↓AM.R0, AM.R1, AM.R2, Nat.reduceAdd, Nat.reduceLeDiff, Nat.reduceEqDiff, Int.reduceToNat, Nat.reduceLT, ↓reduceIte, Int.reduceEq, Int.reduceLT, Int.reduceLE]
      subst hQ
      exact ⟨fT.trans f3, by rw [hX]⟩
  have m : orB i.op [22, 40] = false := hb
  clear hb
  rw [if_neg (by simp [m])] at hX
  clear m
  clear ht
  simp -implicitDefEqProofs (disch := first | decide | assumption | omega | (simp -implicitDefEqProofs only [AM.RN]; first | done | omega) | fail) only [↓AM.R0, AM.R1, AM.R2, Nat.reduceAdd, Nat.reduceLeDiff, Nat.reduceEqDiff, Int.reduceToNat, Nat.reduceLT, ↓reduceIte, Int.reduceEq, Int.reduceLT, Int.reduceLE, e0, e4, e39]
  refine AM.cI_bool (fun hb => ?_) (fun hb => ?_)
  · have m : orB i.op [23] = true := (Bool.or_false _).trans hb
    clear hb
    rw [if_pos m] at hX
    simp -implicitDefEqProofs (disch := first | decide | assumption | omega | (simp -implicitDefEqProofs only [AM.RN]; first | done | omega) | fail) only [↓AM.R0, AM.R1, AM.R2, Nat.reduceAdd, Nat.reduceLeDiff, Nat.reduceEqDiff, Int.reduceToNat, Nat.reduceLT, ↓reduceIte, Int.reduceEq, Int.reduceLT, Int.reduceLE, e0, e4, gB, AM.a_buildSlice, List.range, List.range.loop, List.getD_cons_zero, Nat.mod_one]
    refine AM.callI_of (are1 C2 i.a 0) ?_
    rintro r h3 ⟨f3, rfl⟩
    have gB3 := (f3.get h1.n hn0 (by simp)).trans gB
    have hn3 : h1.n < h3.n := by have := f3.n; omega
    simp -implicitDefEqProofs (disch := first | decide | assumption | omega | (simp -implicitDefEqProofs only [AM.RN]; first | done | omega) | fail) only [↓AM.R0, AM.R1, AM.R2, Nat.reduceAdd, Nat.reduceLeDiff, Nat.reduceEqDiff, Int.reduceToNat, Nat.reduceLT, ↓reduceIte, Int.reduceEq, Int.reduceLT, Int.reduceLE]
    refine AM.cI_bool (fun hd => ?_) (fun hd => ?_)
    · have hd' : areF f.slots [(i.a, 0)] ≠ 0 := by simpa using hd
      rw [if_pos hd'] at hX
      simp -implicitDefEqProofs (disch := first | decide | assumption | omega | (simp -implicitDefEqProofs only [AM.RN]; first | done | omega) | fail) only [↓AM.R0, AM.R1, AM.R2, Nat.reduceAdd, Nat.reduceLeDiff, Nat.reduceEqDiff, Int.reduceToNat, Nat.reduceLT, ↓reduceIte, Int.reduceEq, Int.reduceLT, Int.reduceLE]
      subst hQ
      exact ⟨fT.trans f3, by rw [hX]⟩
    · have hd' : ¬ areF f.slots [(i.a, 0)] ≠ 0 := by simpa using hd
      rw [if_neg hd'] at hX
      simp -implicitDefEqProofs (disch := first | decide | assumption | omega | (simp -implicitDefEqProofs only [AM.RN]; first | done | omega) | fail) only [↓AM.R0, AM.R1, AM.R2, Nat.reduceAdd, Nat.reduceLeDiff, Nat.reduceEqDiff, Int.reduceToNat, Nat.reduceLT, ↓reduceIte, Int.reduceEq, Int.reduceLT, Int.reduceLE, e0, e4, gB3, AM.a_buildSlice, List.range, List.range.loop, List.getD_cons_zero, Nat.mod_one]
      refine AM.callI_of (alike2 (C2.keep f3) _ _ 19 rfl isRef i.b i.c) ?_
      rintro r h4 ⟨f4, rfl⟩
      simp -implicitDefEqProofs (disch := first | decide | assumption | omega | (simp -implicitDefEqProofs only [AM.RN]; first | done | omega) | fail) only [↓AM.R0, AM.R1, AM.R2, Nat.reduceAdd, Nat.reduceLeDiff, Nat.reduceEqDiff, Int.reduceToNat, Nat.reduceLT, ↓reduceIte, Int.reduceEq, Int.reduceLT, Int.reduceLE]
      subst hQ
      exact ⟨(fT.trans f3).trans f4, by rw [hX]⟩
  have m : orB i.op [23] = false := (Bool.or_false _).trans hb
  clear hb
  rw [if_neg (by simp [m])] at hX
  clear m
  simp -implicitDefEqProofs (disch := first | decide | assumption | omega | (simp -implicitDefEqProofs only [AM.RN]; first | done | omega) | fail) only [↓AM.R0, AM.R1, AM.R2, Nat.reduceAdd, Nat.reduceLeDiff, Nat.reduceEqDiff, Int.reduceToNat, Nat.reduceLT, ↓reduceIte, Int.reduceEq, Int.reduceLT, Int.reduceLE, e0, e4, e39]
  refine cI_or (t := 151) (s := 39) (x := i.op) (by decide) [(153, 25)] (by simp -implicitDefEqProofs (disch := first | decide | assumption | omega | (simp -implicitDefEqProofs only [AM.RN]; first | done | omega) | fail) only [↓AM.R0, AM.R1, AM.R2, Nat.reduceAdd, Nat.reduceLeDiff, Nat.reduceEqDiff, Int.reduceToNat, Nat.reduceLT, ↓reduceIte, Int.reduceEq, Int.reduceLT, Int.reduceLE, e0, e4, e39, gB]) (by simp -implicitDefEqProofs (disch := first | decide | assumption | omega | (simp -implicitDefEqProofs only [AM.RN]; first | done | omega) | fail) only [↓AM.R0, AM.R1, AM.R2, Nat.reduceAdd, Nat.reduceLeDiff, Nat.reduceEqDiff, Int.reduceToNat, Nat.reduceLT, ↓reduceIte, Int.reduceEq, Int.reduceLT, Int.reduceLE, e0, e4, e39, gB]) (by decide) ?_
  intro e' ht hk
  have e0' : Env.val e' 0 = .ptr c 0 0 := (hk 0 (by decide) (by decide)).trans (by simp -implicitDefEqProofs (disch := first | decide | assumption | omega | (simp -implicitDefEqProofs only [AM.RN]; first | done | omega) | fail) only [↓AM.R0, AM.R1, AM.R2, Nat.reduceAdd, Nat.reduceLeDiff, Nat.reduceEqDiff, Int.reduceToNat, Nat.reduceLT, ↓reduceIte, Int.reduceEq, Int.reduceLT, Int.reduceLE, e0, e4, e39, gB])
  have e4' : Env.val e' 4 = .ptr h1.n 0 0 := (hk 4 (by decide) (by decide)).trans (by simp -implicitDefEqProofs (disch := first | decide | assumption | omega | (simp -implicitDefEqProofs only [AM.RN]; first | done | omega) | fail) only [↓AM.R0, AM.R1, AM.R2, Nat.reduceAdd, Nat.reduceLeDiff, Nat.reduceEqDiff, Int.reduceToNat, Nat.reduceLT, ↓reduceIte, Int.reduceEq, Int.reduceLT, Int.reduceLE, e0, e4, e39, gB])
  have e39' : Env.val e' 39 = .int .i64 i.op := (hk 39 (by decide) (by decide)).trans (by simp -implicitDefEqProofs (disch := first | decide | assumption | omega | (simp -implicitDefEqProofs only [AM.RN]; first | done | omega) | fail) only [↓AM.R0, AM.R1, AM.R2, Nat.reduceAdd, Nat.reduceLeDiff, Nat.reduceEqDiff, Int.reduceToNat, Nat.reduceLT, ↓reduceIte, Int.reduceEq, Int.reduceLT, Int.reduceLE, e0, e4, e39, gB])
  clear hk
  try clear e0
  have e0 := e0'
  clear e0'
  try clear e4
  have e4 := e4'
  clear e4'
  try clear e39
  have e39 := e39'
  clear e39'
  simp -implicitDefEqProofs (disch := first | decide | assumption | omega | (simp -implicitDefEqProofs only [AM.RN]; first | done | omega) | fail) only [↓AM.R0, AM.R1, AM.R2, Nat.reduceAdd, Nat.reduceLeDiff, Nat.reduceEqDiff, Int.reduceToNat, Nat.reduceLT, ↓reduceIte, Int.reduceEq, Int.reduceLT, Int.reduceLE, ht]
  refine AM.cI_bool (fun hb => ?_) (fun hb => ?_)
  · have m : orB i.op [24, 25] = true := hb
    clear hb
    rw [if_pos m] at hX
    simp -implicitDefEqProofs (disch := first | decide | assumption | omega | (simp -implicitDefEqProofs only [AM.RN]; first | done | omega) | fail) only [↓AM.R0, AM.R1, AM.R2, Nat.reduceAdd, Nat.reduceLeDiff, Nat.reduceEqDiff, Int.reduceToNat, Nat.reduceLT, ↓reduceIte, Int.reduceEq, Int.reduceLT, Int.reduceLE, e0, e4, gB, AM.a_buildSlice, List.range, List.range.loop, List.getD_cons_zero, Nat.mod_one]
    refine AM.callI_of (jump C2 R2) ?_
    rintro r h3 ⟨f3, rfl⟩
    simp -implicitDefEqProofs (disch := first | decide | assumption | omega | (simp -implicitDefEqProofs only [AM.RN]; first | done | omega) | fail) only [↓AM.R0, AM.R1, AM.R2, Nat.reduceAdd, Nat.reduceLeDiff, Nat.reduceEqDiff, Int.reduceToNat, Nat.reduceLT, ↓reduceIte, Int.reduceEq, Int.reduceLT, Int.reduceLE]
    subst hQ
    exact ⟨fT.trans f3, by rw [hX]⟩
  have m : orB i.op [24, 25] = false := hb
  clear hb
  rw [if_neg (by simp [m])] at hX
  clear m
  clear ht
  simp -implicitDefEqProofs (disch := first | decide | assumption | omega | (simp -implicitDefEqProofs only [AM.RN]; first | done | omega) | fail) only [↓AM.R0, AM.R1, AM.R2, Nat.reduceAdd, Nat.reduceLeDiff, Nat.reduceEqDiff, Int.reduceToNat, Nat.reduceLT, ↓reduceIte, Int.reduceEq, Int.reduceLT, Int.reduceLE, e0, e4, e39]
  refine cI_or (t := 157) (s := 39) (x := i.op) (by decide) [(159, 46), (160, 52)] (by simp -implicitDefEqProofs (disch := first | decide | assumption | omega | (simp -implicitDefEqProofs only [AM.RN]; first | done | omega) | fail) only [↓AM.R0, AM.R1, AM.R2, Nat.reduceAdd, Nat.reduceLeDiff, Nat.reduceEqDiff, Int.reduceToNat, Nat.reduceLT, ↓reduceIte, Int.reduceEq, Int.reduceLT, Int.reduceLE, e0, e4, e39, gB]) (by simp -implicitDefEqProofs (disch := first | decide | assumption | omega | (simp -implicitDefEqProofs only [AM.RN]; first | done | omega) | fail) only [↓AM.R0, AM.R1, AM.R2, Nat.reduceAdd, Nat.reduceLeDiff, Nat.reduceEqDiff, Int.reduceToNat, Nat.reduceLT, ↓reduceIte, Int.reduceEq, Int.reduceLT, Int.reduceLE, e0, e4, e39, gB]) (by decide) ?_
  intro e' ht hk
  have e0' : Env.val e' 0 = .ptr c 0 0 := (hk 0 (by decide) (by decide)).trans (by simp -implicitDefEqProofs (disch := first | decide | assumption | omega | (simp -implicitDefEqProofs only [AM.RN]; first | done | omega) | fail) only [↓AM.R0, AM.R1, AM.R2, Nat.reduceAdd, Nat.reduceLeDiff, Nat.reduceEqDiff, Int.reduceToNat, Nat.reduceLT, ↓reduceIte, Int.reduceEq, Int.reduceLT, Int.reduceLE, e0, e4, e39, gB])
  have e4' : Env.val e' 4 = .ptr h1.n 0 0 := (hk 4 (by decide) (by decide)).trans (by simp -implicitDefEqProofs (disch := first | decide | assumption | omega | (simp -implicitDefEqProofs only [AM.RN]; first | done | omega) | fail) only [↓AM.R0, AM.R1, AM.R2, Nat.reduceAdd, Nat.reduceLeDiff, Nat.reduceEqDiff, Int.reduceToNat, Nat.reduceLT, ↓reduceIte, Int.reduceEq, Int.reduceLT, Int.reduceLE, e0, e4, e39, gB])
  have e39' : Env.val e' 39 = .int .i64 i.op := (hk 39 (by decide) (by decide)).trans (by simp -implicitDefEqProofs (disch := first | decide | assumption | omega | (simp -implicitDefEqProofs only [AM.RN]; first | done | omega) | fail) only [↓AM.R0, AM.R1, AM.R2, Nat.reduceAdd, Nat.reduceLeDiff, Nat.reduceEqDiff, Int.reduceToNat, Nat.reduceLT, ↓reduceIte, Int.reduceEq, Int.reduceLT, Int.reduceLE, e0, e4, e39, gB])
  clear hk
  try clear e0
  have e0 := e0'
  clear e0'
  try clear e4
  have e4 := e4'
  clear e4'
  try clear e39
  have e39 := e39'
  clear e39'
  simp -implicitDefEqProofs (disch := first | decide | assumption | omega | (simp -implicitDefEqProofs only [AM.RN]; first | done | omega) | fail) only [↓AM.R0, AM.R1, AM.R2, Nat.reduceAdd, Nat.reduceLeDiff, Nat.reduceEqDiff, Int.reduceToNat, Nat.reduceLT, ↓reduceIte, Int.reduceEq, Int.reduceLT, Int.reduceLE, ht]
  refine AM.cI_bool (fun hb => ?_) (fun hb => ?_)
  · have m : orB i.op [39, 46, 52] = true := hb
    clear hb
    rw [if_pos m] at hX
    simp -implicitDefEqProofs (disch := first | decide | assumption | omega | (simp -implicitDefEqProofs only [AM.RN]; first | done | omega) | fail) only [↓AM.R0, AM.R1, AM.R2, Nat.reduceAdd, Nat.reduceLeDiff, Nat.reduceEqDiff, Int.reduceToNat, Nat.reduceLT, ↓reduceIte, Int.reduceEq, Int.reduceLT, Int.reduceLE, e0, e4, gB, AM.a_buildSlice, List.range, List.range.loop, List.getD_cons_zero, Nat.mod_one]
    refine AM.callI_of (are1 C2 i.a 0) ?_
    rintro r h3 ⟨f3, rfl⟩
    simp -implicitDefEqProofs (disch := first | decide | assumption | omega | (simp -implicitDefEqProofs only [AM.RN]; first | done | omega) | fail) only [↓AM.R0, AM.R1, AM.R2, Nat.reduceAdd, Nat.reduceLeDiff, Nat.reduceEqDiff, Int.reduceToNat, Nat.reduceLT, ↓reduceIte, Int.reduceEq, Int.reduceLT, Int.reduceLE]
    subst hQ
    exact ⟨fT.trans f3, by rw [hX]⟩
  have m : orB i.op [39, 46, 52] = false := hb
  clear hb
  rw [if_neg (by simp [m])] at hX
  clear m
  clear ht
  simp -implicitDefEqProofs (disch := first | decide | assumption | omega | (simp -implicitDefEqProofs only [AM.RN]; first | done | omega) | fail) only [↓AM.R0, AM.R1, AM.R2, Nat.reduceAdd, Nat.reduceLeDiff, Nat.reduceEqDiff, Int.reduceToNat, Nat.reduceLT, ↓reduceIte, Int.reduceEq, Int.reduceLT, Int.reduceLE, e0, e4, e39]
  refine AM.cI_bool (fun hb => ?_) (fun hb => ?_)
  · have m : orB i.op [47] = true := (Bool.or_false _).trans hb
    clear hb
    rw [if_pos m] at hX
    simp -implicitDefEqProofs (disch := first | decide | assumption | omega | (simp -implicitDefEqProofs only [AM.RN]; first | done | omega) | fail) only [↓AM.R0, AM.R1, AM.R2, Nat.reduceAdd, Nat.reduceLeDiff, Nat.reduceEqDiff, Int.reduceToNat, Nat.reduceLT, ↓reduceIte, Int.reduceEq, Int.reduceLT, Int.reduceLE]
    subst hQ
    exact ⟨fT, by rw [hX]⟩
  have m : orB i.op [47] = false := (Bool.or_false _).trans hb
  clear hb
  rw [if_neg (by simp [m])] at hX
  clear m
  simp -implicitDefEqProofs (disch := first | decide | assumption | omega | (simp -implicitDefEqProofs only [AM.RN]; first | done | omega) | fail) only [↓AM.R0, AM.R1, AM.R2, Nat.reduceAdd, Nat.reduceLeDiff, Nat.reduceEqDiff, Int.reduceToNat, Nat.reduceLT, ↓reduceIte, Int.reduceEq, Int.reduceLT, Int.reduceLE, e0, e4, e39]
  refine cI_or (t := 168) (s := 39) (x := i.op) (by decide) [(170, 51)] (by simp -implicitDefEqProofs (disch := first | decide | assumption | omega | (simp -implicitDefEqProofs only [AM.RN]; first | done | omega) | fail) only [↓AM.R0, AM.R1, AM.R2, Nat.reduceAdd, Nat.reduceLeDiff, Nat.reduceEqDiff, Int.reduceToNat, Nat.reduceLT, ↓reduceIte, Int.reduceEq, Int.reduceLT, Int.reduceLE, e0, e4, e39, gB]) (by simp -implicitDefEqProofs (disch := first | decide | assumption | omega | (simp -implicitDefEqProofs only [AM.RN]; first | done | omega) | fail) only [↓AM.R0, AM.R1, AM.R2, Nat.reduceAdd, Nat.reduceLeDiff, Nat.reduceEqDiff, Int.reduceToNat, Nat.reduceLT, ↓reduceIte, Int.reduceEq, Int.reduceLT, Int.reduceLE, e0, e4, e39, gB]) (by decide) ?_
  intro e' ht hk
  have e0' : Env.val e' 0 = .ptr c 0 0 := (hk 0 (by decide) (by decide)).trans (by simp -implicitDefEqProofs (disch := first | decide | assumption | omega | (simp -implicitDefEqProofs only [AM.RN]; first | done | omega) | fail) only [↓AM.R0, AM.R1, AM.R2, Nat.reduceAdd, Nat.reduceLeDiff, Nat.reduceEqDiff, Int.reduceToNat, Nat.reduceLT, ↓reduceIte, Int.reduceEq, Int.reduceLT, Int.reduceLE, e0, e4, e39, gB])
  have e4' : Env.val e' 4 = .ptr h1.n 0 0 := (hk 4 (by decide) (by decide)).trans (by simp -implicitDefEqProofs (disch := first | decide | assumption | omega | (simp -implicitDefEqProofs only [AM.RN]; first | done | omega) | fail) only [↓AM.R0, AM.R1, AM.R2, Nat.reduceAdd, Nat.reduceLeDiff, Nat.reduceEqDiff, Int.reduceToNat, Nat.reduceLT, ↓reduceIte, Int.reduceEq, Int.reduceLT, Int.reduceLE, e0, e4, e39, gB])
  have e39' : Env.val e' 39 = .int .i64 i.op := (hk 39 (by decide) (by decide)).trans (by simp -implicitDefEqProofs (disch := first | decide | assumption | omega | (simp -implicitDefEqProofs only [AM.RN]; first | done | omega) | fail) only [↓AM.R0, AM.R1, AM.R2, Nat.reduceAdd, Nat.reduceLeDiff, Nat.reduceEqDiff, Int.reduceToNat, Nat.reduceLT, ↓reduceIte, Int.reduceEq, Int.reduceLT, Int.reduceLE, e0, e4, e39, gB])
  clear hk
  try clear e0
  have e0 := e0'
  clear e0'
  try clear e4
  have e4 := e4'
  clear e4'
  try clear e39
  have e39 := e39'
  clear e39'
  simp -implicitDefEqProofs (disch := first | decide | assumption | omega | (simp -implicitDefEqProofs only [AM.RN]; first | done | omega) | fail) only [↓AM.R0, AM.R1, AM.R2, Nat.reduceAdd, Nat.reduceLeDiff, Nat.reduceEqDiff, Int.reduceToNat, Nat.reduceLT, ↓reduceIte, Int.reduceEq, Int.reduceLT, Int.reduceLE, ht]
  refine AM.cI_bool (fun hb => ?_) (fun hb => ?_)
  · have m : orB i.op [49, 51] = true := hb
    clear hb
    rw [if_pos m] at hX
    simp -implicitDefEqProofs (disch := first | decide | assumption | omega | (simp -implicitDefEqProofs only [AM.RN]; first | done | omega) | fail) only [↓AM.R0, AM.R1, AM.R2, Nat.reduceAdd, Nat.reduceLeDiff, Nat.reduceEqDiff, Int.reduceToNat, Nat.reduceLT, ↓reduceIte, Int.reduceEq, Int.reduceLT, Int.reduceLE, e0, e4, gB, AM.a_buildSlice, List.range, List.range.loop, List.getD_cons_zero, Nat.mod_one]
    refine AM.callI_of (are2 C2 i.a 2 i.b 0) ?_
    rintro r h3 ⟨f3, rfl⟩
    simp -implicitDefEqProofs (disch := first | decide | assumption | omega | (simp -implicitDefEqProofs only [AM.RN]; first | done | omega) | fail) only [↓AM.R0, AM.R1, AM.R2, Nat.reduceAdd, Nat.reduceLeDiff, Nat.reduceEqDiff, Int.reduceToNat, Nat.reduceLT, ↓reduceIte, Int.reduceEq, Int.reduceLT, Int.reduceLE]
    subst hQ
    exact ⟨fT.trans f3, by rw [hX]⟩
  have m : orB i.op [49, 51] = false := hb
  clear hb
  rw [if_neg (by simp [m])] at hX
  clear m
  clear ht
  simp -implicitDefEqProofs (disch := first | decide | assumption | omega | (simp -implicitDefEqProofs only [AM.RN]; first | done | omega) | fail) only [↓AM.R0, AM.R1, AM.R2, Nat.reduceAdd, Nat.reduceLeDiff, Nat.reduceEqDiff, Int.reduceToNat, Nat.reduceLT, ↓reduceIte, Int.reduceEq, Int.reduceLT, Int.reduceLE, e0, e4, e39]
  refine AM.cI_bool (fun hb => ?_) (fun hb => ?_)
  · have m : orB i.op [50] = true := (Bool.or_false _).trans hb
    clear hb
    rw [if_pos m] at hX
    simp -implicitDefEqProofs (disch := first | decide | assumption | omega | (simp -implicitDefEqProofs only [AM.RN]; first | done | omega) | fail) only [↓AM.R0, AM.R1, AM.R2, Nat.reduceAdd, Nat.reduceLeDiff, Nat.reduceEqDiff, Int.reduceToNat, Nat.reduceLT, ↓reduceIte, Int.reduceEq, Int.reduceLT, Int.reduceLE, e0, e4, gB, AM.a_buildSlice, List.range, List.range.loop, List.getD_cons_zero, Nat.mod_one]
    refine AM.callI_of (are2 C2 i.a 0 i.b 2) ?_
    rintro r h3 ⟨f3, rfl⟩
    simp -implicitDefEqProofs (disch := first | decide | assumption | omega | (simp -implicitDefEqProofs only [AM.RN]; first | done | omega) | fail) only [↓AM.R0, AM.R1, AM.R2, Nat.reduceAdd, Nat.reduceLeDiff, Nat.reduceEqDiff, Int.reduceToNat, Nat.reduceLT, ↓reduceIte, Int.reduceEq, Int.reduceLT, Int.reduceLE]
    subst hQ
    exact ⟨fT.trans f3, by rw [hX]⟩
  have m : orB i.op [50] = false := (Bool.or_false _).trans hb
  clear hb
  rw [if_neg (by simp [m])] at hX
  clear m
  simp -implicitDefEqProofs (disch := first | decide | assumption | omega | (simp -implicitDefEqProofs only [AM.RN]; first | done | omega) | fail) only [↓AM.R0, AM.R1, AM.R2, Nat.reduceAdd, Nat.reduceLeDiff, Nat.reduceEqDiff, Int.reduceToNat, Nat.reduceLT, ↓reduceIte, Int.reduceEq, Int.reduceLT, Int.reduceLE, e0, e4, e39]
  refine cI_or (t := 187) (s := 39) (x := i.op) (by decide) [(189, 27), (190, 28), (191, 29), (192, 30), (193, 31), (194, 32), (195, 33), (196, 34)] (by simp -implicitDefEqProofs (disch := first | decide | assumption | omega | (simp -implicitDefEqProofs only [AM.RN]; first | done | omega) | fail) only [↓AM.R0, AM.R1, AM.R2, Nat.reduceAdd, Nat.reduceLeDiff, Nat.reduceEqDiff, Int.reduceToNat, Nat.reduceLT, ↓reduceIte, Int.reduceEq, Int.reduceLT, Int.reduceLE, e0, e4, e39, gB]) (by simp -implicitDefEqProofs (disch := first | decide | assumption | omega | (simp -implicitDefEqProofs only [AM.RN]; first | done | omega) | fail) only [↓AM.R0, AM.R1, AM.R2, Nat.reduceAdd, Nat.reduceLeDiff, Nat.reduceEqDiff, Int.reduceToNat, Nat.reduceLT, ↓reduceIte, Int.reduceEq, Int.reduceLT, Int.reduceLE, e0, e4, e39, gB]) (by decide) ?_
  intro e' ht hk
  have e0' : Env.val e' 0 = .ptr c 0 0 := (hk 0 (by decide) (by decide)).trans (by simp -implicitDefEqProofs (disch := first | decide | assumption | omega | (simp -implicitDefEqProofs only [AM.RN]; first | done | omega) | fail) only [↓AM.R0, AM.R1, AM.R2, Nat.reduceAdd, Nat.reduceLeDiff, Nat.reduceEqDiff, Int.reduceToNat, Nat.reduceLT, ↓reduceIte, Int.reduceEq, Int.reduceLT, Int.reduceLE, e0, e4, e39, gB])
  have e4' : Env.val e' 4 = .ptr h1.n 0 0 := (hk 4 (by decide) (by decide)).trans (by simp -implicitDefEqProofs (disch := first | decide | assumption | omega | (simp -implicitDefEqProofs only [AM.RN]; first | done | omega) | fail) only [↓AM.R0, AM.R1, AM.R2, Nat.reduceAdd, Nat.reduceLeDiff, Nat.reduceEqDiff, Int.reduceToNat, Nat.reduceLT, ↓reduceIte, Int.reduceEq, Int.reduceLT, Int.reduceLE, e0, e4, e39, gB])
  have e39' : Env.val e' 39 = .int .i64 i.op := (hk 39 (by decide) (by decide)).trans (by simp -implicitDefEqProofs (disch := first | decide | assumption | omega | (simp -implicitDefEqProofs only [AM.RN]; first | done | omega) | fail) only [↓AM.R0, AM.R1, AM.R2, Nat.reduceAdd, Nat.reduceLeDiff, Nat.reduceEqDiff, Int.reduceToNat, Nat.reduceLT, ↓reduceIte, Int.reduceEq, Int.reduceLT, Int.reduceLE, e0, e4, e39, gB])
  clear hk
  try clear e0
  have e0 := e0'
  clear e0'
  try clear e4
  have e4 := e4'
  clear e4'
  try clear e39
  have e39 := e39'
  clear e39'
  simp -implicitDefEqProofs (disch := first | decide | assumption | omega | (simp -implicitDefEqProofs only [AM.RN]; first | done | omega) | fail) only [↓AM.R0, AM.R1, AM.R2, Nat.reduceAdd, Nat.reduceLeDiff, Nat.reduceEqDiff, Int.reduceToNat, Nat.reduceLT, ↓reduceIte, Int.reduceEq, Int.reduceLT, Int.reduceLE, ht]
  refine AM.cI_bool (fun hb => ?_) (fun hb => ?_)
  · have m : orB i.op [26, 27, 28, 29, 30, 31, 32, 33, 34] = true := hb
    clear hb
    rw [if_pos m] at hX
    simp -implicitDefEqProofs (disch := first | decide | assumption | omega | (simp -implicitDefEqProofs only [AM.RN]; first | done | omega) | fail) only [↓AM.R0, AM.R1, AM.R2, Nat.reduceAdd, Nat.reduceLeDiff, Nat.reduceEqDiff, Int.reduceToNat, Nat.reduceLT, ↓reduceIte, Int.reduceEq, Int.reduceLT, Int.reduceLE, e0, e4, gB, AM.a_buildSlice, List.range, List.range.loop, List.getD_cons_zero, Nat.mod_one]
    refine AM.callI_of (memory C2 H T hT R2) ?_
    rintro r h3 ⟨f3, rfl⟩
    simp -implicitDefEqProofs (disch := first | decide | assumption | omega | (simp -implicitDefEqProofs only [AM.RN]; first | done | omega) | fail) only [↓AM.R0, AM.R1, AM.R2, Nat.reduceAdd, Nat.reduceLeDiff, Nat.reduceEqDiff, Int.reduceToNat, Nat.reduceLT, ↓reduceIte, Int.reduceEq, Int.reduceLT, Int.reduceLE]
    subst hQ
    exact ⟨fT.trans f3, by rw [hX]⟩
  have m : orB i.op [26, 27, 28, 29, 30, 31, 32, 33, 34] = false := hb
  clear hb
  rw [if_neg (by simp [m])] at hX
  clear m
  clear ht
  simp -implicitDefEqProofs (disch := first | decide | assumption | omega | (simp -implicitDefEqProofs only [AM.RN]; first | done | omega) | fail) only [↓AM.R0, AM.R1, AM.R2, Nat.reduceAdd, Nat.reduceLeDiff, Nat.reduceEqDiff, Int.reduceToNat, Nat.reduceLT, ↓reduceIte, Int.reduceEq, Int.reduceLT, Int.reduceLE, e0, e4, e39]
  refine cI_or (t := 200) (s := 39) (x := i.op) (by decide) [(202, 36), (203, 37), (204, 38)] (by simp -implicitDefEqProofs (disch := first | decide | assumption | omega | (simp -implicitDefEqProofs only [AM.RN]; first | done | omega) | fail) only [↓AM.R0, AM.R1, AM.R2, Nat.reduceAdd, Nat.reduceLeDiff, Nat.reduceEqDiff, Int.reduceToNat, Nat.reduceLT, ↓reduceIte, Int.reduceEq, Int.reduceLT, Int.reduceLE, e0, e4, e39, gB]) (by simp -implicitDefEqProofs (disch := first | decide | assumption | omega | (simp -implicitDefEqProofs only [AM.RN]; first | done | omega) | fail) only [↓AM.R0, AM.R1, AM.R2, Nat.reduceAdd, Nat.reduceLeDiff, Nat.reduceEqDiff, Int.reduceToNat, Nat.reduceLT, ↓reduceIte, Int.reduceEq, Int.reduceLT, Int.reduceLE, e0, e4, e39, gB]) (by decide) ?_
  intro e' ht hk
  have e0' : Env.val e' 0 = .ptr c 0 0 := (hk 0 (by decide) (by decide)).trans (by simp -implicitDefEqProofs (disch := first | decide | assumption | omega | (simp -implicitDefEqProofs only [AM.RN]; first | done | omega) | fail) only [↓AM.R0, AM.R1, AM.R2, Nat.reduceAdd, Nat.reduceLeDiff, Nat.reduceEqDiff, Int.reduceToNat, Nat.reduceLT, ↓reduceIte, Int.reduceEq, Int.reduceLT, Int.reduceLE, e0, e4, e39, gB])
  have e4' : Env.val e' 4 = .ptr h1.n 0 0 := (hk 4 (by decide) (by decide)).trans (by simp -implicitDefEqProofs (disch := first | decide | assumption | omega | (simp -implicitDefEqProofs only [AM.RN]; first | done | omega) | fail) only [↓AM.R0, AM.R1, AM.R2, Nat.reduceAdd, Nat.reduceLeDiff, Nat.reduceEqDiff, Int.reduceToNat, Nat.reduceLT, ↓reduceIte, Int.reduceEq, Int.reduceLT, Int.reduceLE, e0, e4, e39, gB])
  have e39' : Env.val e' 39 = .int .i64 i.op := (hk 39 (by decide) (by decide)).trans (by simp -implicitDefEqProofs (disch := first | decide | assumption | omega | (simp -implicitDefEqProofs only [AM.RN]; first | done | omega) | fail) only [↓AM.R0, AM.R1, AM.R2, Nat.reduceAdd, Nat.reduceLeDiff, Nat.reduceEqDiff, Int.reduceToNat, Nat.reduceLT, ↓reduceIte, Int.reduceEq, Int.reduceLT, Int.reduceLE, e0, e4, e39, gB])
  clear hk
  try clear e0
  have e0 := e0'
  clear e0'
  try clear e4
  have e4 := e4'
  clear e4'
  try clear e39
  have e39 := e39'
  clear e39'
  simp -implicitDefEqProofs (disch := first | decide | assumption | omega | (simp -implicitDefEqProofs only [AM.RN]; first | done | omega) | fail) only [↓AM.R0, AM.R1, AM.R2, Nat.reduceAdd, Nat.reduceLeDiff, Nat.reduceEqDiff, Int.reduceToNat, Nat.reduceLT, ↓reduceIte, Int.reduceEq, Int.reduceLT, Int.reduceLE, ht]
  refine AM.cI_bool (fun hb => ?_) (fun hb => ?_)
  · have m : orB i.op [35, 36, 37, 38] = true := hb
    clear hb
    rw [if_pos m] at hX
    simp -implicitDefEqProofs (disch := first | decide | assumption | omega | (simp -implicitDefEqProofs only [AM.RN]; first | done | omega) | fail) only [↓AM.R0, AM.R1, AM.R2, Nat.reduceAdd, Nat.reduceLeDiff, Nat.reduceEqDiff, Int.reduceToNat, Nat.reduceLT, ↓reduceIte, Int.reduceEq, Int.reduceLT, Int.reduceLE, e0, e4, gB, AM.a_buildSlice, List.range, List.range.loop, List.getD_cons_zero, Nat.mod_one]
    refine AM.callI_of (calls C2 HP hl R2) ?_
    rintro r h3 ⟨f3, rfl⟩
    simp -implicitDefEqProofs (disch := first | decide | assumption | omega | (simp -implicitDefEqProofs only [AM.RN]; first | done | omega) | fail) only [↓AM.R0, AM.R1, AM.R2, Nat.reduceAdd, Nat.reduceLeDiff, Nat.reduceEqDiff, Int.reduceToNat, Nat.reduceLT, ↓reduceIte, Int.reduceEq, Int.reduceLT, Int.reduceLE]
    subst hQ
    exact ⟨fT.trans f3, by rw [hX]⟩
  have m : orB i.op [35, 36, 37, 38] = false := hb
  clear hb
  rw [if_neg (by simp [m])] at hX
  clear m
  clear ht
  simp -implicitDefEqProofs (disch := first | decide | assumption | omega | (simp -implicitDefEqProofs only [AM.RN]; first | done | omega) | fail) only [↓AM.R0, AM.R1, AM.R2, Nat.reduceAdd, Nat.reduceLeDiff, Nat.reduceEqDiff, Int.reduceToNat, Nat.reduceLT, ↓reduceIte, Int.reduceEq, Int.reduceLT, Int.reduceLE, e0, e4, e39, gB]
  refine AM.callI_of (channels C2 H hl R2) ?_
  rintro r h3 ⟨f3, rfl⟩
  simp -implicitDefEqProofs (disch := first | decide | assumption | omega | (simp -implicitDefEqProofs only [AM.RN]; first | done | omega) | fail) only [↓AM.R0, AM.R1, AM.R2, Nat.reduceAdd, Nat.reduceLeDiff, Nat.reduceEqDiff, Int.reduceToNat, Nat.reduceLT, ↓reduceIte, Int.reduceEq, Int.reduceLT, Int.reduceLE]
  subst hQ
  exact ⟨fT.trans f3, by rw [hX]⟩
end Go.Proofs.Ytofcnjglnnoimaa.Vf

namespace Go.Proofs.Ytofcnjglnnoimaa.Vf
open Go Go.AM Go.Proofs.Ytofcnjglnnoimaa.AmGW
attribute [local irreducible] AM.wp AM.wpIs AM.wpTr AM.opI AM.gI AM.cI AM.trI AM.callI AM.fnI AM.trG AM.trOp AM.trCall AM.seqC AM.loopI
set_option maxRecDepth 100000
set_option linter.unusedVariables false
set_option linter.unusedSimpArgs false

/-- The first fault of a list, and where. -/
def firstE {α : Type} (f : α → Int) : List α → Nat → Int × Int
  | [], _ => (0, 0)
  | a :: l, n => if f a ≠ 0 then (f a, n) else firstE f l (n + 1)
theorem firstE_drop {α : Type} {f : α → Int} {l : List α} {i : Nat} {a : α} (h : l[i]? = some a) : firstE f (l.drop i) i = if f a ≠ 0 then (f a, (i : Int)) else firstE f (l.drop (i + 1)) (i + 1) := by
  obtain ⟨hi, rfl⟩ := List.getElem?_eq_some_iff.1 h
  rw [List.drop_eq_getElem_cons hi]; rfl
def tyF (nt : Nat) (t : Bool × List Int) : Int :=
  if 16 < t.2.length ∨ t.2.length < 1 ∨ (t.1 = true ∧ t.2.length ≠ 1) then 16 else if t.2.any (fun k => !kindF nt k) = true then 10 else 0
def typesF (p : PProg) : Int × Int :=
  if 32 < p.types.length ∨ 32 < p.globals.length ∨ 32 < p.funcs.length ∨ p.funcs.length < 1 then (16, 0)
  else if (firstE (tyF p.types.length) p.types 0).1 ≠ 0 then firstE (tyF p.types.length) p.types 0
  else firstE (fun k => if kindF p.types.length k = true then 0 else 15) p.globals 0

set_option maxHeartbeats 4000000 in
theorem types {h : AHeap} {c : Nat} {p : PProg} {f : PFunc} {i : PIns} (C : CkR h c p f i) (ok : p.Ok) :
    CallP AP 32 [.ptr c 0 0] h fun r h' => HFrame h h' [] [] ∧ r = .tup [.int .i64 (typesF p).1, .int .i64 (typesF p).2] := by
  refine callP (rfl : Tr.get AP 32 = some A32) ?_
  generalize hQ : (fun (r : AVal) (h' : AHeap) => _) = Q
  have C0 := C
  obtain ⟨tv, gv, fv, sv, rv, cv, at_, lv, g, lt, s1, s2, s3, s4, s5, s6, hi, s7⟩ := C
  have l1 := s1.len
  have l2 := s2.len
  have l3 := s3.len
  simp -implicitDefEqProofs (disch := first | decide | assumption | omega | (simp -implicitDefEqProofs only [AM.RN]; first | done | omega) | fail) only [AM.RGB, ↓AM.R0, AM.R1, AM.R2, Nat.reduceAdd, Nat.reduceLeDiff, Nat.reduceEqDiff, Int.reduceToNat, Nat.reduceLT, ↓reduceIte, Int.reduceEq, Int.reduceLT, Int.reduceLE, g, l1, l2, l3]
  refine AM.cI_bool (fun hb => ?_) (fun hb => ?_)
  · simp -implicitDefEqProofs (disch := first | decide | assumption | omega | (simp -implicitDefEqProofs only [AM.RN]; first | done | omega) | fail) only [↓AM.R0, AM.R1, AM.R2, Nat.reduceAdd, Nat.reduceLeDiff, Nat.reduceEqDiff, Int.reduceToNat, Nat.reduceLT, ↓reduceIte, Int.reduceEq, Int.reduceLT, Int.reduceLE]
    simp only [Bool.or_eq_true, decide_eq_true_eq] at hb
    subst hQ
    exact ⟨HFrame.refl (by simp), by rw [typesF, if_pos (by omega)]⟩
  simp only [Bool.or_eq_false_iff, decide_eq_false_iff_not] at hb
  have hm : typesF p = if (firstE (tyF p.types.length) p.types 0).1 ≠ 0 then firstE (tyF p.types.length) p.types 0 else firstE (fun k => if kindF p.types.length k = true then 0 else 15) p.globals 0 := by
    rw [typesF, if_neg (by omega)]
  simp -implicitDefEqProofs (disch := first | decide | assumption | omega | (simp -implicitDefEqProofs only [AM.RN]; first | done | omega) | fail) only [↓AM.R0, AM.R1, AM.R2, Nat.reduceAdd, Nat.reduceLeDiff, Nat.reduceEqDiff, Int.reduceToNat, Nat.reduceLT, ↓reduceIte, Int.reduceEq, Int.reduceLT, Int.reduceLE, g, l1]
  refine AM.loopI_of (fun k e h' => ∃ x : Nat, k + x = p.types.length ∧ e.val 0 = .ptr c 0 0 ∧ e.val 48 = tv ∧ e.val 49 = .int .i64 p.types.length ∧ e.val 50 = .int .i64 x ∧ HFrame h h' [] [] ∧ firstE (tyF p.types.length) p.types 0 = firstE (tyF p.types.length) (p.types.drop x) x) p.types.length ?_ ?_
  · refine ⟨0, by omega, ?_, ?_, ?_, ?_, HFrame.refl (by simp), by simp⟩ <;> simp -implicitDefEqProofs (disch := first | decide | assumption | omega | (simp -implicitDefEqProofs only [AM.RN]; first | done | omega) | fail) only [↓AM.R0, AM.R1, AM.R2, Nat.reduceAdd, Nat.reduceLeDiff, Nat.reduceEqDiff, Int.reduceToNat, Nat.reduceLT, ↓reduceIte, Int.reduceEq, Int.reduceLT, Int.reduceLE] <;> rfl
  · rintro k e h' ⟨x, hk, e0, e48, e49, e50, fr, hF⟩
    simp -implicitDefEqProofs (disch := first | decide | assumption | omega | (simp -implicitDefEqProofs only [AM.RN]; first | done | omega) | fail) only [↓AM.R0, AM.R1, AM.R2, Nat.reduceAdd, Nat.reduceLeDiff, Nat.reduceEqDiff, Int.reduceToNat, Nat.reduceLT, ↓reduceIte, Int.reduceEq, Int.reduceLT, Int.reduceLE, e48, e49, e50]
    refine AM.cI_bool (fun hc => ?_) (fun hc => ?_)
    · simp only [decide_eq_true_eq] at hc
      obtain ⟨t, ht⟩ : ∃ t, p.types[x]? = some t := ⟨_, List.getElem?_eq_getElem (by omega)⟩
      obtain ⟨j, g2, off, vs, ro, row, x1, x2, x3, x4, x5, x6, fl, rfl, xl⟩ := (s1.mono (h' := h') (R' := TypeR h) (fun _ _ q => q) fr.n (fun j hj => fr.get j hj (by simp))).ix ht .i64
      have cf := SlIn.cellv xl
      have lx := xl.len
      obtain ⟨p1, p2⟩ := two_of x5
      have hw : IntKind.i64.wrap ((x : Int) + 1) = ((x + 1 : Nat) : Int) := wrap64 (by omega) (by omega)
      rw [firstE_drop ht] at hF
      simp -implicitDefEqProofs (disch := first | decide | assumption | omega | (simp -implicitDefEqProofs only [AM.RN]; first | done | omega) | fail) only [AM.RGB, ↓AM.R0, AM.R1, AM.R2, Nat.reduceAdd, Nat.reduceLeDiff, Nat.reduceEqDiff, Int.reduceToNat, Nat.reduceLT, ↓reduceIte, Int.reduceEq, Int.reduceLT, Int.reduceLE, e0, e48, e49, e50, x1, x2, x5, cf, lx]
      have fT := (fr.pushTmp (.cells 0 false [.bool false, .nils])).setTmp (i := h'.n) fr.n (.cells 0 false [.bool t.1, fl])
      have gT := AHeap.get_set_same (h'.push (.cells 0 false [.bool false, .nils])) h'.n (.cells 0 false [.bool t.1, fl])
      have nT : h'.n < ((h'.push (.cells 0 false [.bool false, .nils])).set h'.n (.cells 0 false [.bool t.1, fl])).n := by simp
      generalize ((h'.push (.cells 0 false [.bool false, .nils])).set h'.n (.cells 0 false [.bool t.1, fl])) = hA at *
      refine AM.cI_bool (fun hd => ?_) (fun hd => ?_)
      · simp -implicitDefEqProofs (disch := first | decide | assumption | omega | (simp -implicitDefEqProofs only [AM.RN]; first | done | omega) | fail) only [↓AM.R0, AM.R1, AM.R2, Nat.reduceAdd, Nat.reduceLeDiff, Nat.reduceEqDiff, Int.reduceToNat, Nat.reduceLT, ↓reduceIte, Int.reduceEq, Int.reduceLT, Int.reduceLE, e50]
        have h16 : tyF p.types.length t = 16 := by
          rw [tyF, if_pos]
          simp only [Bool.or_eq_true, Bool.and_eq_true, decide_eq_true_eq, Bool.not_eq_true', decide_eq_false_iff_not] at hd
          rcases hd with (q | q) | ⟨q1, q2⟩
          · exact .inl (by omega)
          · exact .inr (.inl (by omega))
          · exact .inr (.inr ⟨q1, by omega⟩)
        rw [h16] at hF
        subst hQ
        exact ⟨fT, by rw [hm, hF]; rfl⟩
      · have hty : tyF p.types.length t = if t.2.any (fun k => !kindF p.types.length k) = true then 10 else 0 := by
          rw [tyF, if_neg]
          simp only [Bool.or_eq_false_iff, Bool.and_eq_false_iff, decide_eq_false_iff_not, Bool.not_eq_false', decide_eq_true_eq, Bool.not_eq_true'] at hd
          rintro (q | q | ⟨q1, q2⟩)
          · omega
          · omega
          · rw [q1] at hd; simp at hd; omega
        have h16 : t.2.length ≤ 16 := by
          simp only [Bool.or_eq_false_iff, decide_eq_false_iff_not] at hd
          omega
        simp -implicitDefEqProofs (disch := first | decide | assumption | omega | (simp -implicitDefEqProofs only [AM.RN]; first | done | omega) | fail) only [↓AM.R0, AM.R1, AM.R2, Nat.reduceAdd, Nat.reduceLeDiff, Nat.reduceEqDiff, Int.reduceToNat, Nat.reduceLT, ↓reduceIte, Int.reduceEq, Int.reduceLT, Int.reduceLE, gT, lx]
        refine AM.loopI_of (fun k e h2 => ∃ y : Nat, k + y = t.2.length ∧ e.val 0 = .ptr c 0 0 ∧ e.val 4 = .int .i64 x ∧ e.val 48 = tv ∧ e.val 49 = .int .i64 p.types.length ∧ e.val 50 = .int .i64 x ∧ e.val 77 = fl ∧ e.val 78 = .int .i64 t.2.length ∧ e.val 79 = .int .i64 y ∧ h2 = hA ∧
          t.2.any (fun k => !kindF p.types.length k) = (t.2.drop y).any (fun k => !kindF p.types.length k)) t.2.length ?_ ?_
        · refine ⟨0, by omega, ?_, ?_, ?_, ?_, ?_, ?_, ?_, ?_, rfl, by simp⟩ <;> simp -implicitDefEqProofs (disch := first | decide | assumption | omega | (simp -implicitDefEqProofs only [AM.RN]; first | done | omega) | fail) only [↓AM.R0, AM.R1, AM.R2, Nat.reduceAdd, Nat.reduceLeDiff, Nat.reduceEqDiff, Int.reduceToNat, Nat.reduceLT, ↓reduceIte, Int.reduceEq, Int.reduceLT, Int.reduceLE, e0, e48, e49, e50] <;> rfl
        · clear e0 e48 e49 e50
          rintro k e h2 ⟨y, hky, e0, e4, e48, e49, e50, e77, e78, e79, hh, hA2⟩
          subst hh
          simp -implicitDefEqProofs (disch := first | decide | assumption | omega | (simp -implicitDefEqProofs only [AM.RN]; first | done | omega) | fail) only [↓AM.R0, AM.R1, AM.R2, Nat.reduceAdd, Nat.reduceLeDiff, Nat.reduceEqDiff, Int.reduceToNat, Nat.reduceLT, ↓reduceIte, Int.reduceEq, Int.reduceLT, Int.reduceLE, e77, e78, e79]
          refine AM.cI_bool (fun he => ?_) (fun he => ?_)
          · simp only [decide_eq_true_eq] at he
            obtain ⟨a, ha⟩ : ∃ a, t.2[y]? = some a := ⟨_, List.getElem?_eq_getElem (by omega)⟩
            obtain ⟨j2, g3, off2, vs2, ro2, y1, y2, y3, y5⟩ := ((xl.keep fT).rd ha).ix1 (enc := fun n => .int .i64 n) ha .i64
            have hw2 : IntKind.i64.wrap ((y : Int) + 1) = ((y + 1 : Nat) : Int) := wrap64 (by omega) (by omega)
            rw [any_drop ha] at hA2
            simp -implicitDefEqProofs (disch := first | decide | assumption | omega | (simp -implicitDefEqProofs only [AM.RN]; first | done | omega) | fail) only [↓AM.R0, AM.R1, AM.R2, Nat.reduceAdd, Nat.reduceLeDiff, Nat.reduceEqDiff, Int.reduceToNat, Nat.reduceLT, ↓reduceIte, Int.reduceEq, Int.reduceLT, Int.reduceLE, e0, e77, e78, e79, y1, y2, y5]
            refine AM.callI_of (kind (C0.keep fT) a (ok.types t (List.mem_of_getElem? ht) a (List.mem_of_getElem? ha))) ?_
            rintro r h3 ⟨rfl, rfl⟩
            simp -implicitDefEqProofs (disch := first | decide | assumption | omega | (simp -implicitDefEqProofs only [AM.RN]; first | done | omega) | fail) only [↓AM.R0, AM.R1, AM.R2, Nat.reduceAdd, Nat.reduceLeDiff, Nat.reduceEqDiff, Int.reduceToNat, Nat.reduceLT, ↓reduceIte, Int.reduceEq, Int.reduceLT, Int.reduceLE]
            refine AM.cI_bool (fun hf => ?_) (fun hf => ?_)
            · simp -implicitDefEqProofs (disch := first | decide | assumption | omega | (simp -implicitDefEqProofs only [AM.RN]; first | done | omega) | fail) only [↓AM.R0, AM.R1, AM.R2, Nat.reduceAdd, Nat.reduceLeDiff, Nat.reduceEqDiff, Int.reduceToNat, Nat.reduceLT, ↓reduceIte, Int.reduceEq, Int.reduceLT, Int.reduceLE, e4]
              rw [hf, Bool.true_or] at hA2
              rw [hty, if_pos hA2] at hF
              subst hQ
              exact ⟨fT, by rw [hm, hF]; rfl⟩
            · rw [hf, Bool.false_or] at hA2
              simp -implicitDefEqProofs (disch := first | decide | assumption | omega | (simp -implicitDefEqProofs only [AM.RN]; first | done | omega) | fail) only [↓AM.R0, AM.R1, AM.R2, Nat.reduceAdd, Nat.reduceLeDiff, Nat.reduceEqDiff, Int.reduceToNat, Nat.reduceLT, ↓reduceIte, Int.reduceEq, Int.reduceLT, Int.reduceLE, e0, e4, e48, e49, e50, e77, e78, e79, hw2]
              exact ⟨t.2.length - (y + 1), by omega, y + 1, by omega, rfl, hA2⟩
          · simp only [decide_eq_false_iff_not] at he
            rw [List.drop_of_length_le (by omega), List.any_nil] at hA2
            rw [hty, hA2, if_neg (by simp)] at hF
            simp -implicitDefEqProofs (disch := first | decide | assumption | omega | (simp -implicitDefEqProofs only [AM.RN]; first | done | omega) | fail) only [↓AM.R0, AM.R1, AM.R2, Nat.reduceAdd, Nat.reduceLeDiff, Nat.reduceEqDiff, Int.reduceToNat, Nat.reduceLT, ↓reduceIte, Int.reduceEq, Int.reduceLT, Int.reduceLE, e0, e48, e49, e50, hw]
            exact ⟨p.types.length - (x + 1), by omega, x + 1, by omega, rfl, fT, hF⟩
    · simp only [decide_eq_false_iff_not] at hc
      rw [List.drop_of_length_le (by omega)] at hF
      have hm2 : typesF p = firstE (fun k => if kindF p.types.length k = true then 0 else 15) p.globals 0 := by rw [hm, hF]; rfl
      have g' := (fr.get c lt (by simp)).trans g
      have lt' : c < h'.n := by have := fr.n; omega
      simp -implicitDefEqProofs (disch := first | decide | assumption | omega | (simp -implicitDefEqProofs only [AM.RN]; first | done | omega) | fail) only [↓AM.R0, AM.R1, AM.R2, Nat.reduceAdd, Nat.reduceLeDiff, Nat.reduceEqDiff, Int.reduceToNat, Nat.reduceLT, ↓reduceIte, Int.reduceEq, Int.reduceLT, Int.reduceLE, e0, g', l2]
      refine AM.loopI_of (fun k e h2 => ∃ x : Nat, k + x = p.globals.length ∧ e.val 0 = .ptr c 0 0 ∧ e.val 94 = gv ∧ e.val 95 = .int .i64 p.globals.length ∧ e.val 96 = .int .i64 x ∧ h2 = h' ∧ firstE (fun k => if kindF p.types.length k = true then (0 : Int) else 15) p.globals 0 = firstE (fun k => if kindF p.types.length k = true then (0 : Int) else 15) (p.globals.drop x) x) p.globals.length ?_ ?_
      · refine ⟨0, by omega, ?_, ?_, ?_, ?_, rfl, by simp⟩ <;> simp -implicitDefEqProofs (disch := first | decide | assumption | omega | (simp -implicitDefEqProofs only [AM.RN]; first | done | omega) | fail) only [↓AM.R0, AM.R1, AM.R2, Nat.reduceAdd, Nat.reduceLeDiff, Nat.reduceEqDiff, Int.reduceToNat, Nat.reduceLT, ↓reduceIte, Int.reduceEq, Int.reduceLT, Int.reduceLE, e0] <;> rfl
      · clear e0 e48 e49 e50 hk hc
        rintro k e h2 ⟨x, hk, e0, e94, e95, e96, hh, hF⟩
        subst hh
        simp -implicitDefEqProofs (disch := first | decide | assumption | omega | (simp -implicitDefEqProofs only [AM.RN]; first | done | omega) | fail) only [↓AM.R0, AM.R1, AM.R2, Nat.reduceAdd, Nat.reduceLeDiff, Nat.reduceEqDiff, Int.reduceToNat, Nat.reduceLT, ↓reduceIte, Int.reduceEq, Int.reduceLT, Int.reduceLE, e94, e95, e96]
        refine AM.cI_bool (fun hc => ?_) (fun hc => ?_)
        · simp only [decide_eq_true_eq] at hc
          obtain ⟨a, ha⟩ : ∃ a, p.globals[x]? = some a := ⟨_, List.getElem?_eq_getElem (by omega)⟩
          obtain ⟨j2, g3, off2, vs2, ro2, y1, y2, y3, y5⟩ := ((s2.keep fr).rd ha).ix1 (enc := fun n => .int .i64 n) ha .i64
          have hw2 : IntKind.i64.wrap ((x : Int) + 1) = ((x + 1 : Nat) : Int) := wrap64 (by omega) (by omega)
          rw [firstE_drop ha] at hF
          simp -implicitDefEqProofs (disch := first | decide | assumption | omega | (simp -implicitDefEqProofs only [AM.RN]; first | done | omega) | fail) only [↓AM.R0, AM.R1, AM.R2, Nat.reduceAdd, Nat.reduceLeDiff, Nat.reduceEqDiff, Int.reduceToNat, Nat.reduceLT, ↓reduceIte, Int.reduceEq, Int.reduceLT, Int.reduceLE, e0, e94, e95, e96, y1, y2, y5]
          refine AM.callI_of (kind (C0.keep fr) a (ok.globals a (List.mem_of_getElem? ha))) ?_
          rintro r h3 ⟨rfl, rfl⟩
          simp -implicitDefEqProofs (disch := first | decide | assumption | omega | (simp -implicitDefEqProofs only [AM.RN]; first | done | omega) | fail) only [↓AM.R0, AM.R1, AM.R2, Nat.reduceAdd, Nat.reduceLeDiff, Nat.reduceEqDiff, Int.reduceToNat, Nat.reduceLT, ↓reduceIte, Int.reduceEq, Int.reduceLT, Int.reduceLE]
          refine AM.cI_bool (fun hf => ?_) (fun hf => ?_)
          · simp -implicitDefEqProofs (disch := first | decide | assumption | omega | (simp -implicitDefEqProofs only [AM.RN]; first | done | omega) | fail) only [↓AM.R0, AM.R1, AM.R2, Nat.reduceAdd, Nat.reduceLeDiff, Nat.reduceEqDiff, Int.reduceToNat, Nat.reduceLT, ↓reduceIte, Int.reduceEq, Int.reduceLT, Int.reduceLE]
            have hf' : kindF p.types.length a = false := by simpa using hf
            rw [hf'] at hF
            subst hQ
            exact ⟨fr, by rw [hm2, hF]; rfl⟩
          · have hf' : kindF p.types.length a = true := by simpa using hf
            rw [hf'] at hF
            simp -implicitDefEqProofs (disch := first | decide | assumption | omega | (simp -implicitDefEqProofs only [AM.RN]; first | done | omega) | fail) only [↓AM.R0, AM.R1, AM.R2, Nat.reduceAdd, Nat.reduceLeDiff, Nat.reduceEqDiff, Int.reduceToNat, Nat.reduceLT, ↓reduceIte, Int.reduceEq, Int.reduceLT, Int.reduceLE, e0, e94, e95, e96, hw2]
            exact ⟨p.globals.length - (x + 1), by omega, x + 1, by omega, rfl, hF⟩
        · simp only [decide_eq_false_iff_not] at hc
          rw [List.drop_of_length_le (by omega)] at hF
          simp -implicitDefEqProofs (disch := first | decide | assumption | omega | (simp -implicitDefEqProofs only [AM.RN]; first | done | omega) | fail) only [↓AM.R0, AM.R1, AM.R2, Nat.reduceAdd, Nat.reduceLeDiff, Nat.reduceEqDiff, Int.reduceToNat, Nat.reduceLT, ↓reduceIte, Int.reduceEq, Int.reduceLT, Int.reduceLE]
          subst hQ
          exact ⟨fr, by rw [hm2, hF]; rfl⟩
end Go.Proofs.Ytofcnjglnnoimaa.Vf

namespace Go.Proofs.Ytofcnjglnnoimaa.Vf
open Go Go.AM Go.Proofs.Ytofcnjglnnoimaa.AmGW
attribute [local irreducible] AM.wp AM.wpIs AM.wpTr AM.opI AM.gI AM.cI AM.trI AM.callI AM.fnI AM.trG AM.trOp AM.trCall AM.seqC AM.loopI
set_option maxRecDepth 100000
set_option linter.unusedVariables false
set_option linter.unusedSimpArgs false

def slotsBad (nt : Nat) (k : Int) : Bool := !decide (k = 2) && !kindF nt k
def lastF (l : List PIns) : Int := if orB ((l.getLast?.map (·.op)).getD 0) [36, 24, 52, 39] = true then 0 else 7
def headF (nt : Nat) (f : PFunc) (first : Bool) : Int :=
  if 32 < f.slots.length ∨ 32 < f.results.length ∨ 256 < f.code.length ∨ f.params < 0 ∨ f.slots.length < f.params then 16
  else if first = true ∧ (f.params ≠ 0 ∨ f.results.length ≠ 0) then 13
  else if f.slots.any (slotsBad nt) = true then 10
  else if f.results.any (fun k => !kindF nt k) = true then 10
  else if f.code.length = 0 then 7 else lastF f.code

set_option maxHeartbeats 4000000 in
theorem head {h : AHeap} {c : Nat} {p : PProg} {f : PFunc} {i : PIns} (C : CkR h c p f i) (ok : f.Ok) (first : Bool) :
    CallP AP 33 [.ptr c 0 0, .bool first] h fun r h' => HFrame h h' [] [] ∧ r = .int .i64 (headF p.types.length f first) := by
  refine callP (rfl : Tr.get AP 33 = some A33) ?_
  generalize hQ : (fun (r : AVal) (h' : AHeap) => _) = Q
  have C0 := C
  obtain ⟨tv, gv, fv, sv, rv, cv, at_, lv, g, lt, s1, s2, s3, s4, s5, s6, hi, s7⟩ := C
  have l4 := s4.len
  have l5 := s5.len
  have l6 := s6.len
  have c4 := SlIn.cellv s4
  have c5 := SlIn.cellv s5
  have c6 := SlR.cellv s6
  have fT := ((HFrame.refl (h := h) (F := []) (by simp)).pushTmp (.cells 0 false [.int .i64 0, .nils, .nils, .nils])).setTmp (i := h.n) (Nat.le_refl _) (.cells 0 false [.int .i64 f.params, sv, rv, cv])
  have gB := AHeap.get_set_same (h.push (.cells 0 false [.int .i64 0, .nils, .nils, .nils])) h.n (.cells 0 false [.int .i64 f.params, sv, rv, cv])
  have hn0 : h.n < ((h.push (.cells 0 false [.int .i64 0, .nils, .nils, .nils])).set h.n (.cells 0 false [.int .i64 f.params, sv, rv, cv])).n := by simp
  simp -implicitDefEqProofs (disch := first | decide | assumption | omega | (simp -implicitDefEqProofs only [AM.RN]; first | done | omega) | fail) only [AM.RGB, ↓AM.R0, AM.R1, AM.R2, Nat.reduceAdd, Nat.reduceLeDiff, Nat.reduceEqDiff, Int.reduceToNat, Nat.reduceLT, ↓reduceIte, Int.reduceEq, Int.reduceLT, Int.reduceLE, g, l4, l5, l6, c4, c5, c6]
  generalize ((h.push (.cells 0 false [.int .i64 0, .nils, .nils, .nils])).set h.n (.cells 0 false [.int .i64 f.params, sv, rv, cv])) = h1 at *
  have C1 := C0.keep fT
  refine AM.cI_bool (fun hb => ?_) (fun hb => ?_)
  · simp -implicitDefEqProofs (disch := first | decide | assumption | omega | (simp -implicitDefEqProofs only [AM.RN]; first | done | omega) | fail) only [↓AM.R0, AM.R1, AM.R2, Nat.reduceAdd, Nat.reduceLeDiff, Nat.reduceEqDiff, Int.reduceToNat, Nat.reduceLT, ↓reduceIte, Int.reduceEq, Int.reduceLT, Int.reduceLE]
    simp only [Bool.or_eq_true, decide_eq_true_eq] at hb
    subst hQ
    exact ⟨fT, by rw [headF, if_pos (by omega)]⟩
  simp only [Bool.or_eq_false_iff, decide_eq_false_iff_not] at hb
  obtain ⟨X, hX⟩ : ∃ X, X = headF p.types.length f first := ⟨_, rfl⟩
  rw [← hX] at hQ
  rw [headF, if_neg (by omega)] at hX
  simp -implicitDefEqProofs (disch := first | decide | assumption | omega | (simp -implicitDefEqProofs only [AM.RN]; first | done | omega) | fail) only [AM.RGB, ↓AM.R0, AM.R1, AM.R2, Nat.reduceAdd, Nat.reduceLeDiff, Nat.reduceEqDiff, Int.reduceToNat, Nat.reduceLT, ↓reduceIte, Int.reduceEq, Int.reduceLT, Int.reduceLE, gB, l5]
  refine AM.cI_bool (fun hc => ?_) (fun hc => ?_)
  · simp -implicitDefEqProofs (disch := first | decide | assumption | omega | (simp -implicitDefEqProofs only [AM.RN]; first | done | omega) | fail) only [↓AM.R0, AM.R1, AM.R2, Nat.reduceAdd, Nat.reduceLeDiff, Nat.reduceEqDiff, Int.reduceToNat, Nat.reduceLT, ↓reduceIte, Int.reduceEq, Int.reduceLT, Int.reduceLE]
    rw [if_pos (by simpa using hc)] at hX
    subst hQ
    exact ⟨fT, by rw [hX]⟩
  rw [if_neg (by rintro ⟨rfl, q⟩; revert hc; rcases q with q | q <;> simp [q])] at hX
  simp -implicitDefEqProofs (disch := first | decide | assumption | omega | (simp -implicitDefEqProofs only [AM.RN]; first | done | omega) | fail) only [↓AM.R0, AM.R1, AM.R2, Nat.reduceAdd, Nat.reduceLeDiff, Nat.reduceEqDiff, Int.reduceToNat, Nat.reduceLT, ↓reduceIte, Int.reduceEq, Int.reduceLT, Int.reduceLE, gB, l4]
  refine AM.loopI_of (fun k e h' => ∃ y : Nat, k + y = f.slots.length ∧ e.val 0 = .ptr c 0 0 ∧ e.val 5 = .ptr h.n 0 0 ∧ e.val 56 = sv ∧ e.val 57 = .int .i64 f.slots.length ∧ e.val 58 = .int .i64 y ∧ h' = h1 ∧
    f.slots.any (slotsBad p.types.length) = (f.slots.drop y).any (slotsBad p.types.length)) f.slots.length ?_ ?_
  · refine ⟨0, by omega, ?_, ?_, ?_, ?_, ?_, rfl, by simp⟩ <;> simp -implicitDefEqProofs (disch := first | decide | assumption | omega | (simp -implicitDefEqProofs only [AM.RN]; first | done | omega) | fail) only [↓AM.R0, AM.R1, AM.R2, Nat.reduceAdd, Nat.reduceLeDiff, Nat.reduceEqDiff, Int.reduceToNat, Nat.reduceLT, ↓reduceIte, Int.reduceEq, Int.reduceLT, Int.reduceLE] <;> rfl
  · rintro k e h' ⟨y, hky, e0, e5, e56, e57, e58, hh, hA⟩
    subst hh
    simp -implicitDefEqProofs (disch := first | decide | assumption | omega | (simp -implicitDefEqProofs only [AM.RN]; first | done | omega) | fail) only [↓AM.R0, AM.R1, AM.R2, Nat.reduceAdd, Nat.reduceLeDiff, Nat.reduceEqDiff, Int.reduceToNat, Nat.reduceLT, ↓reduceIte, Int.reduceEq, Int.reduceLT, Int.reduceLE, e56, e57, e58]
    refine AM.cI_bool (fun he => ?_) (fun he => ?_)
    · simp only [decide_eq_true_eq] at he
      obtain ⟨a, ha⟩ : ∃ a, f.slots[y]? = some a := ⟨_, List.getElem?_eq_getElem (by omega)⟩
      obtain ⟨j2, g3, off2, vs2, ro2, y1, y2, y3, y5⟩ := ((s4.keep fT).rd ha).ix1 (enc := fun n => .int .i64 n) ha .i64
      have hw2 : IntKind.i64.wrap ((y : Int) + 1) = ((y + 1 : Nat) : Int) := wrap64 (by omega) (by omega)
      rw [any_drop ha] at hA
      simp -implicitDefEqProofs (disch := first | decide | assumption | omega | (simp -implicitDefEqProofs only [AM.RN]; first | done | omega) | fail) only [↓AM.R0, AM.R1, AM.R2, Nat.reduceAdd, Nat.reduceLeDiff, Nat.reduceEqDiff, Int.reduceToNat, Nat.reduceLT, ↓reduceIte, Int.reduceEq, Int.reduceLT, Int.reduceLE, e0, e5, e56, e57, e58, y1, y2, y5]
      refine AM.gI_bool (fun hf => ?_) (fun hf => ?_)
      · simp -implicitDefEqProofs (disch := first | decide | assumption | omega | (simp -implicitDefEqProofs only [AM.RN]; first | done | omega) | fail) only [↓AM.R0, AM.R1, AM.R2, Nat.reduceAdd, Nat.reduceLeDiff, Nat.reduceEqDiff, Int.reduceToNat, Nat.reduceLT, ↓reduceIte, Int.reduceEq, Int.reduceLT, Int.reduceLE, e0, hf]
        refine AM.callI_of (kind C1 a (ok.slots a (List.mem_of_getElem? ha))) ?_
        rintro r h3 ⟨rfl, rfl⟩
        simp -implicitDefEqProofs (disch := first | decide | assumption | omega | (simp -implicitDefEqProofs only [AM.RN]; first | done | omega) | fail) only [↓AM.R0, AM.R1, AM.R2, Nat.reduceAdd, Nat.reduceLeDiff, Nat.reduceEqDiff, Int.reduceToNat, Nat.reduceLT, ↓reduceIte, Int.reduceEq, Int.reduceLT, Int.reduceLE, hf]
        refine AM.cI_bool (fun hd => ?_) (fun hd => ?_)
        · simp -implicitDefEqProofs (disch := first | decide | assumption | omega | (simp -implicitDefEqProofs only [AM.RN]; first | done | omega) | fail) only [↓AM.R0, AM.R1, AM.R2, Nat.reduceAdd, Nat.reduceLeDiff, Nat.reduceEqDiff, Int.reduceToNat, Nat.reduceLT, ↓reduceIte, Int.reduceEq, Int.reduceLT, Int.reduceLE]
          rw [slotsBad, hf, hd, Bool.true_and, Bool.true_or] at hA
          rw [if_pos hA] at hX
          subst hQ
          exact ⟨fT, by rw [hX]⟩
        · rw [slotsBad, hf, hd, Bool.true_and, Bool.false_or] at hA
          simp -implicitDefEqProofs (disch := first | decide | assumption | omega | (simp -implicitDefEqProofs only [AM.RN]; first | done | omega) | fail) only [↓AM.R0, AM.R1, AM.R2, Nat.reduceAdd, Nat.reduceLeDiff, Nat.reduceEqDiff, Int.reduceToNat, Nat.reduceLT, ↓reduceIte, Int.reduceEq, Int.reduceLT, Int.reduceLE, e0, e5, e56, e57, e58, hw2]
          exact ⟨f.slots.length - (y + 1), by omega, y + 1, by omega, rfl, hA⟩
      · rw [slotsBad, hf, Bool.false_and, Bool.false_or] at hA
        simp -implicitDefEqProofs (disch := first | decide | assumption | omega | (simp -implicitDefEqProofs only [AM.RN]; first | done | omega) | fail) only [↓AM.R0, AM.R1, AM.R2, Nat.reduceAdd, Nat.reduceLeDiff, Nat.reduceEqDiff, Int.reduceToNat, Nat.reduceLT, ↓reduceIte, Int.reduceEq, Int.reduceLT, Int.reduceLE, e0, e5, e56, e57, e58, hw2, hf]
        exact ⟨f.slots.length - (y + 1), by omega, y + 1, by omega, rfl, hA⟩
    · simp only [decide_eq_false_iff_not] at he
      rw [List.drop_of_length_le (by omega), List.any_nil] at hA
      rw [if_neg (by simp [hA])] at hX
      simp -implicitDefEqProofs (disch := first | decide | assumption | omega | (simp -implicitDefEqProofs only [AM.RN]; first | done | omega) | fail) only [↓AM.R0, AM.R1, AM.R2, Nat.reduceAdd, Nat.reduceLeDiff, Nat.reduceEqDiff, Int.reduceToNat, Nat.reduceLT, ↓reduceIte, Int.reduceEq, Int.reduceLT, Int.reduceLE, e0, e5, gB, l5]
      refine AM.loopI_of (fun k e h2 => ∃ y : Nat, k + y = f.results.length ∧ e.val 0 = .ptr c 0 0 ∧ e.val 5 = .ptr h.n 0 0 ∧ e.val 72 = rv ∧ e.val 73 = .int .i64 f.results.length ∧ e.val 74 = .int .i64 y ∧ h2 = h' ∧
        f.results.any (fun k => !kindF p.types.length k) = (f.results.drop y).any (fun k => !kindF p.types.length k)) f.results.length ?_ ?_
      · refine ⟨0, by omega, ?_, ?_, ?_, ?_, ?_, rfl, by simp⟩ <;> simp -implicitDefEqProofs (disch := first | decide | assumption | omega | (simp -implicitDefEqProofs only [AM.RN]; first | done | omega) | fail) only [↓AM.R0, AM.R1, AM.R2, Nat.reduceAdd, Nat.reduceLeDiff, Nat.reduceEqDiff, Int.reduceToNat, Nat.reduceLT, ↓reduceIte, Int.reduceEq, Int.reduceLT, Int.reduceLE, e0, e5] <;> rfl
      · clear e0 e5 e56 e57 e58 he hky hA
        rintro k e h2 ⟨y, hky, e0, e5, e72, e73, e74, hh, hA⟩
        subst hh
        simp -implicitDefEqProofs (disch := first | decide | assumption | omega | (simp -implicitDefEqProofs only [AM.RN]; first | done | omega) | fail) only [↓AM.R0, AM.R1, AM.R2, Nat.reduceAdd, Nat.reduceLeDiff, Nat.reduceEqDiff, Int.reduceToNat, Nat.reduceLT, ↓reduceIte, Int.reduceEq, Int.reduceLT, Int.reduceLE, e72, e73, e74]
        refine AM.cI_bool (fun he => ?_) (fun he => ?_)
        · simp only [decide_eq_true_eq] at he
          obtain ⟨a, ha⟩ : ∃ a, f.results[y]? = some a := ⟨_, List.getElem?_eq_getElem (by omega)⟩
          obtain ⟨j2, g3, off2, vs2, ro2, y1, y2, y3, y5⟩ := ((s5.keep fT).rd ha).ix1 (enc := fun n => .int .i64 n) ha .i64
          have hw2 : IntKind.i64.wrap ((y : Int) + 1) = ((y + 1 : Nat) : Int) := wrap64 (by omega) (by omega)
          rw [any_drop ha] at hA
          simp -implicitDefEqProofs (disch := first | decide | assumption | omega | (simp -implicitDefEqProofs only [AM.RN]; first | done | omega) | fail) only [↓AM.R0, AM.R1, AM.R2, Nat.reduceAdd, Nat.reduceLeDiff, Nat.reduceEqDiff, Int.reduceToNat, Nat.reduceLT, ↓reduceIte, Int.reduceEq, Int.reduceLT, Int.reduceLE, e0, e5, e72, e73, e74, y1, y2, y5]
          refine AM.callI_of (kind C1 a (ok.results a (List.mem_of_getElem? ha))) ?_
          rintro r h3 ⟨rfl, rfl⟩
          simp -implicitDefEqProofs (disch := first | decide | assumption | omega | (simp -implicitDefEqProofs only [AM.RN]; first | done | omega) | fail) only [↓AM.R0, AM.R1, AM.R2, Nat.reduceAdd, Nat.reduceLeDiff, Nat.reduceEqDiff, Int.reduceToNat, Nat.reduceLT, ↓reduceIte, Int.reduceEq, Int.reduceLT, Int.reduceLE]
          refine AM.cI_bool (fun hd => ?_) (fun hd => ?_)
          · simp -implicitDefEqProofs (disch := first | decide | assumption | omega | (simp -implicitDefEqProofs only [AM.RN]; first | done | omega) | fail) only [↓AM.R0, AM.R1, AM.R2, Nat.reduceAdd, Nat.reduceLeDiff, Nat.reduceEqDiff, Int.reduceToNat, Nat.reduceLT, ↓reduceIte, Int.reduceEq, Int.reduceLT, Int.reduceLE]
            rw [hd, Bool.true_or] at hA
            rw [if_pos hA] at hX
            subst hQ
            exact ⟨fT, by rw [hX]⟩
          · rw [hd, Bool.false_or] at hA
            simp -implicitDefEqProofs (disch := first | decide | assumption | omega | (simp -implicitDefEqProofs only [AM.RN]; first | done | omega) | fail) only [↓AM.R0, AM.R1, AM.R2, Nat.reduceAdd, Nat.reduceLeDiff, Nat.reduceEqDiff, Int.reduceToNat, Nat.reduceLT, ↓reduceIte, Int.reduceEq, Int.reduceLT, Int.reduceLE, e0, e5, e72, e73, e74, hw2]
            exact ⟨f.results.length - (y + 1), by omega, y + 1, by omega, rfl, hA⟩
        · simp only [decide_eq_false_iff_not] at he
          rw [List.drop_of_length_le (by omega), List.any_nil] at hA
          rw [if_neg (by simp [hA])] at hX
          simp -implicitDefEqProofs (disch := first | decide | assumption | omega | (simp -implicitDefEqProofs only [AM.RN]; first | done | omega) | fail) only [↓AM.R0, AM.R1, AM.R2, Nat.reduceAdd, Nat.reduceLeDiff, Nat.reduceEqDiff, Int.reduceToNat, Nat.reduceLT, ↓reduceIte, Int.reduceEq, Int.reduceLT, Int.reduceLE, e0, e5, gB, l6]
          refine AM.cI_bool (fun hd => ?_) (fun hd => ?_)
          · simp only [decide_eq_true_eq] at hd
            simp -implicitDefEqProofs (disch := first | decide | assumption | omega | (simp -implicitDefEqProofs only [AM.RN]; first | done | omega) | fail) only [↓AM.R0, AM.R1, AM.R2, Nat.reduceAdd, Nat.reduceLeDiff, Nat.reduceEqDiff, Int.reduceToNat, Nat.reduceLT, ↓reduceIte, Int.reduceEq, Int.reduceLT, Int.reduceLE]
            rw [if_pos (by omega)] at hX
            subst hQ
            exact ⟨fT, by rw [hX]⟩
          · simp only [decide_eq_false_iff_not] at hd
            rw [if_neg (by omega)] at hX
            obtain ⟨z, hz⟩ : ∃ z, f.code[f.code.length - 1]? = some z := ⟨_, List.getElem?_eq_getElem (by omega)⟩
            have hz2 : f.code.getLast? = some z := by rw [List.getLast?_eq_getElem?]; exact hz
            obtain ⟨j, g2, off, vs, ro, row, x1, x2, x3, x4, x5, x6, q7, lz, rfl, xl⟩ := (s6.mono (h' := h2) (R' := InsR h) (fun _ _ q => q) fT.n (fun j hj => fT.get j hj (by simp))).ix hz .i64
            have hw : IntKind.i64.wrap ((f.code.length : Int) - 1) = ((f.code.length - 1 : Nat) : Int) := (wrap64 (by omega) (by omega)).trans (by omega)
            have p0 : vs[off]? = some (.int .i64 z.op) := by
              have : ((vs.drop off).take 6)[0]? = some (.int .i64 z.op) := by rw [x5]; rfl
              rw [List.getElem?_take, if_pos (by omega), List.getElem?_drop] at this
              exact this
            rw [lastF, hz2] at hX
            simp only [Option.map_some, Option.getD_some] at hX
            simp -implicitDefEqProofs (disch := first | decide | assumption | omega | (simp -implicitDefEqProofs only [AM.RN]; first | done | omega) | fail) only [↓AM.R0, AM.R1, AM.R2, Nat.reduceAdd, Nat.reduceLeDiff, Nat.reduceEqDiff, Int.reduceToNat, Nat.reduceLT, ↓reduceIte, Int.reduceEq, Int.reduceLT, Int.reduceLE, e0, e5, gB, l6, hw, x1, x2, p0]
            refine cI_or (t := 96) (s := 95) (x := z.op) (by decide) [(98, 24), (99, 52), (100, 39)] (by simp -implicitDefEqProofs (disch := first | decide | assumption | omega | (simp -implicitDefEqProofs only [AM.RN]; first | done | omega) | fail) only [↓AM.R0, AM.R1, AM.R2, Nat.reduceAdd, Nat.reduceLeDiff, Nat.reduceEqDiff, Int.reduceToNat, Nat.reduceLT, ↓reduceIte, Int.reduceEq, Int.reduceLT, Int.reduceLE, e0]) (by simp -implicitDefEqProofs (disch := first | decide | assumption | omega | (simp -implicitDefEqProofs only [AM.RN]; first | done | omega) | fail) only [↓AM.R0, AM.R1, AM.R2, Nat.reduceAdd, Nat.reduceLeDiff, Nat.reduceEqDiff, Int.reduceToNat, Nat.reduceLT, ↓reduceIte, Int.reduceEq, Int.reduceLT, Int.reduceLE, e0]) (by decide) ?_
            intro e' ht hk
            have e0' : Env.val e' 0 = .ptr c 0 0 := (hk 0 (by decide) (by decide)).trans (by simp -implicitDefEqProofs (disch := first | decide | assumption | omega | (simp -implicitDefEqProofs only [AM.RN]; first | done | omega) | fail) only [↓AM.R0, AM.R1, AM.R2, Nat.reduceAdd, Nat.reduceLeDiff, Nat.reduceEqDiff, Int.reduceToNat, Nat.reduceLT, ↓reduceIte, Int.reduceEq, Int.reduceLT, Int.reduceLE, e0])
            clear hk
            try clear e0
            have e0 := e0'
            clear e0'
            simp -implicitDefEqProofs (disch := first | decide | assumption | omega | (simp -implicitDefEqProofs only [AM.RN]; first | done | omega) | fail) only [↓AM.R0, AM.R1, AM.R2, Nat.reduceAdd, Nat.reduceLeDiff, Nat.reduceEqDiff, Int.reduceToNat, Nat.reduceLT, ↓reduceIte, Int.reduceEq, Int.reduceLT, Int.reduceLE, ht]
            refine AM.cI_bool (fun hf => ?_) (fun hf => ?_)
            · have m : orB z.op [36, 24, 52, 39] = true := hf
              simp -implicitDefEqProofs (disch := first | decide | assumption | omega | (simp -implicitDefEqProofs only [AM.RN]; first | done | omega) | fail) only [↓AM.R0, AM.R1, AM.R2, Nat.reduceAdd, Nat.reduceLeDiff, Nat.reduceEqDiff, Int.reduceToNat, Nat.reduceLT, ↓reduceIte, Int.reduceEq, Int.reduceLT, Int.reduceLE]
              rw [if_pos m] at hX
              subst hQ
              exact ⟨fT, by rw [hX]⟩
            · have m : orB z.op [36, 24, 52, 39] = false := hf
              simp -implicitDefEqProofs (disch := first | decide | assumption | omega | (simp -implicitDefEqProofs only [AM.RN]; first | done | omega) | fail) only [↓AM.R0, AM.R1, AM.R2, Nat.reduceAdd, Nat.reduceLeDiff, Nat.reduceEqDiff, Int.reduceToNat, Nat.reduceLT, ↓reduceIte, Int.reduceEq, Int.reduceLT, Int.reduceLE]
              rw [if_neg (by simp [m])] at hX
              subst hQ
              exact ⟨fT, by rw [hX]⟩
end Go.Proofs.Ytofcnjglnnoimaa.Vf

namespace Go.Proofs.Ytofcnjglnnoimaa.Vf
open Go Go.AM Go.Proofs.Ytofcnjglnnoimaa.AmGW
attribute [local irreducible] AM.wp AM.wpIs AM.wpTr AM.opI AM.gI AM.cI AM.trI AM.callI AM.fnI AM.trG AM.trOp AM.trCall AM.seqC AM.loopI
set_option maxRecDepth 100000
set_option linter.unusedVariables false
set_option linter.unusedSimpArgs false

def headsF (nt : Nat) : List PFunc → Nat → Int × Int
  | [], _ => (0, 0)
  | g :: l, n => if headF nt g (decide (n = 0)) ≠ 0 then (headF nt g (decide (n = 0)), n) else headsF nt l (n + 1)
def codesF (p : PProg) : List PFunc → Nat → Int × Int × Int
  | [], _ => (0, 0, 0)
  | g :: l, n => if (firstE (insF p g) g.code 0).1 ≠ 0 then ((firstE (insF p g) g.code 0).1, n, (firstE (insF p g) g.code 0).2) else codesF p l (n + 1)
def checkF (p : PProg) : Int × Int × Int :=
  if (typesF p).1 ≠ 0 then ((typesF p).1, -1, (typesF p).2)
  else if (headsF p.types.length p.funcs 0).1 ≠ 0 then ((headsF p.types.length p.funcs 0).1, (headsF p.types.length p.funcs 0).2, 0)
  else codesF p p.funcs 0
theorem headsF_drop {nt : Nat} {l : List PFunc} {i : Nat} {a : PFunc} (h : l[i]? = some a) : headsF nt (l.drop i) i = if headF nt a (decide (i = 0)) ≠ 0 then (headF nt a (decide (i = 0)), (i : Int)) else headsF nt (l.drop (i + 1)) (i + 1) := by
  obtain ⟨hi, rfl⟩ := List.getElem?_eq_some_iff.1 h
  rw [List.drop_eq_getElem_cons hi]; rfl
theorem codesF_drop {p : PProg} {l : List PFunc} {i : Nat} {a : PFunc} (h : l[i]? = some a) : codesF p (l.drop i) i = if (firstE (insF p a) a.code 0).1 ≠ 0 then ((firstE (insF p a) a.code 0).1, (i : Int), (firstE (insF p a) a.code 0).2) else codesF p (l.drop (i + 1)) (i + 1) := by
  obtain ⟨hi, rfl⟩ := List.getElem?_eq_some_iff.1 h
  rw [List.drop_eq_getElem_cons hi]; rfl

theorem firstE_ok {α : Type} {f : α → Int} : ∀ {l : List α} {n : Nat}, (firstE f l n).1 = 0 → ∀ a, a ∈ l → f a = 0
  | [], _, _, a, h => (nomatch h)
  | b :: l, n, e, a, h => by
    unfold firstE at e
    by_cases hb : f b = 0
    · rw [if_neg (by simp [hb])] at e
      rcases List.mem_cons.1 h with rfl | h
      · exact hb
      · exact firstE_ok e a h
    · rw [if_pos hb] at e; exact absurd e hb
theorem headsF_ok {nt : Nat} : ∀ {l : List PFunc} {n : Nat}, (headsF nt l n).1 = 0 → ∀ a, a ∈ l → ∃ b, headF nt a b = 0
  | [], _, _, a, h => (nomatch h)
  | b :: l, n, e, a, h => by
    unfold headsF at e
    by_cases hb : headF nt b (decide (n = 0)) = 0
    · rw [if_neg (by simp [hb])] at e
      rcases List.mem_cons.1 h with rfl | h
      · exact ⟨_, hb⟩
      · exact headsF_ok e a h
    · rw [if_pos hb] at e; exact absurd e hb
theorem typesF_ok {p : PProg} (h : (typesF p).1 = 0) : p.types.length ≤ 32 ∧ p.globals.length ≤ 32 ∧ p.funcs.length ≤ 32 ∧ 1 ≤ p.funcs.length ∧ Ht p ∧ (∀ t, t ∈ p.types → t.2.length ≤ 16) := by
  unfold typesF at h
  split at h
  · cases h
  · rename_i hc
    split at h
    · rename_i hd; exact absurd h hd
    · rename_i hd
      have hd' : (firstE (tyF p.types.length) p.types 0).1 = 0 := by simpa using hd
      have ht : ∀ t, t ∈ p.types → 1 ≤ t.2.length ∧ t.2.length ≤ 16 := fun t ht => by
        have := firstE_ok hd' t ht
        unfold tyF at this
        split at this
        · cases this
        · omega
      exact ⟨by omega, by omega, by omega, by omega, fun t h => by have := (ht t h).1; intro e; rw [e] at this; simp at this, fun t h => (ht t h).2⟩
theorem headF_ok {nt : Nat} {f : PFunc} {b : Bool} (h : headF nt f b = 0) : f.slots.length ≤ 32 ∧ f.results.length ≤ 32 ∧ f.code.length ≤ 256 ∧ 0 ≤ f.params ∧ f.params ≤ f.slots.length ∧ (∀ k, k ∈ f.slots → k = 2 ∨ kindF nt k = true) ∧ f.code.length ≠ 0 := by
  unfold headF at h
  split at h
  · cases h
  · rename_i h1
    split at h
    · cases h
    · split at h
      · cases h
      · rename_i h3
        split at h
        · cases h
        · split at h
          · cases h
          · rename_i h5
            refine ⟨by omega, by omega, by omega, by omega, by omega, fun k hk => ?_, h5⟩
            have := List.any_eq_false.1 (by simpa using h3 : f.slots.any (slotsBad nt) = false) k hk
            unfold slotsBad at this
            simp only [Bool.and_eq_true, Bool.not_eq_true', decide_eq_false_iff_not, not_and, Bool.not_eq_false] at this
            by_cases hq : k = 2
            · exact .inl hq
            · exact .inr (this hq)

theorem mkCk {h h' : AHeap} {c : Nat} {p : PProg} {f : PFunc} {i : PIns} {tv gv fv sv rv cv : AVal} {at_ : Int} {lv : AVal} (fr : HFrame h h' [] []) (g : h'.get c = .cells 0 false [tv, gv, fv, .int .i64 f.params, sv, rv, cv, .int .i64 at_, .int .i64 i.op, .int .i64 i.a, .int .i64 i.b, .int .i64 i.c, .int .u64 i.imm, lv]) (lt : c < h'.n)
    (RT : SlR h 2 (TypeR h) tv p.types) (RG : SlIn h 1 encK gv p.globals) (RF : SlR h 4 (FuncR h) fv p.funcs) (F1 : SlIn h 1 encK sv f.slots) (F2 : SlIn h 1 encK rv f.results) (F3 : SlR h 6 (InsR h) cv f.code) (hi : i.imm ≤ 18446744073709551615) (I1 : SlIn h 1 encK lv i.list) : CkR h' c p f i := by
  have hn := fr.n
  have k : ∀ j, j < h.n → h'.get j = h.get j := fun j hj => fr.get j hj (by simp)
  exact ⟨tv, gv, fv, sv, rv, cv, at_, lv, g, lt, RT.mono (fun _ _ q => TypeR.mono hn k q) hn k, RG.mono hn k, RF.mono (fun _ _ q => FuncR.mono hn k q) hn k, F1.mono hn k, F2.mono hn k, F3.mono (fun _ _ q => InsR.mono hn k q) hn k, hi, I1.mono hn k⟩

set_option maxHeartbeats 4000000 in
theorem check {h : AHeap} {p : PProg} {row : List AVal} (R : ProgR h p row) (ok : p.Ok) :
    CallP AP 16 [.agg row] h fun r h' => HFrame h h' [] [] ∧ r = .agg [.int .i64 (checkF p).1, .int .i64 (checkF p).2.1, .int .i64 (checkF p).2.2] := by
  obtain ⟨tv, gv, fv, rfl, RT, RG, RF⟩ := R
  refine callP (rfl : Tr.get AP 16 = some A16) ?_
  generalize hQ : (fun (r : AVal) (h' : AHeap) => _) = Q
  have c1 := SlR.cellv RT
  have c2 := SlIn.cellv RG
  have c3 := SlR.cellv RF
  have l3 := RF.len
  simp -implicitDefEqProofs (disch := first | decide | assumption | omega | (simp -implicitDefEqProofs only [AM.RN]; first | done | omega) | fail) only [↓AM.R0, AM.R1, AM.R2, Nat.reduceAdd, Nat.reduceLeDiff, Nat.reduceEqDiff, Int.reduceToNat, Nat.reduceLT, ↓reduceIte, Int.reduceEq, Int.reduceLT, Int.reduceLE, c1, c2, c3]
  have f0 := (((HFrame.refl (h := h) (F := []) (by simp)).pushTmp (.cells 0 false [tv, gv, fv])).pushTmp (.cells 0 false [.int .i64 0, .int .i64 0, .int .i64 0])).pushTmp (.cells 0 false [tv, gv, fv, .int .i64 0, .nils, .nils, .nils, .int .i64 0, .int .i64 0, .int .i64 0, .int .i64 0, .int .i64 0, .int .u64 0, .nils])
  obtain ⟨hA, hhA⟩ : ∃ hA, hA = ((h.push (.cells 0 false [tv, gv, fv])).push (.cells 0 false [.int .i64 0, .int .i64 0, .int .i64 0])).push (.cells 0 false [tv, gv, fv, .int .i64 0, .nils, .nils, .nils, .int .i64 0, .int .i64 0, .int .i64 0, .int .i64 0, .int .i64 0, .int .u64 0, .nils]) := ⟨_, rfl⟩
  have nA : hA.n = h.n + 3 := by rw [hhA]; rfl
  have gP : hA.get h.n = .cells 0 false [tv, gv, fv] := by rw [hhA, AHeap.get_push_ne _ _ (by simp; omega), AHeap.get_push_ne _ _ (by simp)]; exact AHeap.get_push_same _ _
  have gR : hA.get (h.n + 1) = .cells 0 false [.int .i64 0, .int .i64 0, .int .i64 0] := by rw [hhA, AHeap.get_push_ne _ _ (by simp)]; exact AHeap.get_push_same (h.push (.cells 0 false [tv, gv, fv])) _
  have gC : hA.get (h.n + 2) = .cells 0 false [tv, gv, fv, .int .i64 0, .nils, .nils, .nils, .int .i64 0, .int .i64 0, .int .i64 0, .int .i64 0, .int .i64 0, .int .u64 0, .nils] := by rw [hhA]; exact AHeap.get_push_same ((h.push (.cells 0 false [tv, gv, fv])).push (.cells 0 false [.int .i64 0, .int .i64 0, .int .i64 0])) _
  have hAe := hhA
  rw [← hhA] at f0 ⊢
  clear hhA hAe
  have C0 : CkR hA (h.n + 2) p ⟨0, [], [], []⟩ ⟨0, 0, 0, 0, 0, []⟩ := mkCk f0 gC (by omega) RT RG RF (.inl (.inl ⟨rfl, rfl⟩)) (.inl (.inl ⟨rfl, rfl⟩)) (.inl ⟨rfl, rfl⟩) (by simp) (.inl (.inl ⟨rfl, rfl⟩))
  obtain ⟨X, hX⟩ : ∃ X, X = checkF p := ⟨_, rfl⟩
  rw [← hX] at hQ
  rw [checkF] at hX
  refine AM.callI_of (types C0 ok) ?_
  rintro r h1 ⟨f1, rfl⟩
  have gP1 := (f1.get h.n (by omega) (by simp)).trans gP
  have gR1 := (f1.get (h.n + 1) (by omega) (by simp)).trans gR
  have gC1 := (f1.get (h.n + 2) (by omega) (by simp)).trans gC
  have n1 : h.n + 3 ≤ h1.n := by have := f1.n; omega
  have f01 := f0.trans f1
  simp -implicitDefEqProofs (disch := first | decide | assumption | omega | (simp -implicitDefEqProofs only [AM.RN]; first | done | omega) | fail) only [↓AM.R0, AM.R1, AM.R2, Nat.reduceAdd, Nat.reduceLeDiff, Nat.reduceEqDiff, Int.reduceToNat, Nat.reduceLT, ↓reduceIte, Int.reduceEq, Int.reduceLT, Int.reduceLE]
  refine AM.cI_bool (fun hb => ?_) (fun hb => ?_)
  · have hb' : (typesF p).1 ≠ 0 := by simpa using hb
    rw [if_pos hb'] at hX
    simp -implicitDefEqProofs (disch := first | decide | assumption | omega | (simp -implicitDefEqProofs only [AM.RN]; first | done | omega) | fail) only [↓AM.R0, AM.R1, AM.R2, Nat.reduceAdd, Nat.reduceLeDiff, Nat.reduceEqDiff, Int.reduceToNat, Nat.reduceLT, ↓reduceIte, Int.reduceEq, Int.reduceLT, Int.reduceLE, gR1]
    subst hQ
    exact ⟨f01.setTmp (by omega) _, by rw [hX]⟩
  have hb' : ¬ (typesF p).1 ≠ 0 := by simpa using hb
  rw [if_neg hb'] at hX
  obtain ⟨t1, t2, t3, t4, t5, t6⟩ := typesF_ok (by simpa using hb')
  simp -implicitDefEqProofs (disch := first | decide | assumption | omega | (simp -implicitDefEqProofs only [AM.RN]; first | done | omega) | fail) only [↓AM.R0, AM.R1, AM.R2, Nat.reduceAdd, Nat.reduceLeDiff, Nat.reduceEqDiff, Int.reduceToNat, Nat.reduceLT, ↓reduceIte, Int.reduceEq, Int.reduceLT, Int.reduceLE, gP1, l3]
  refine AM.loopI_of (fun k e h' => ∃ (x : Nat) (f : PFunc) (sv rv cv : AVal), k + x = p.funcs.length ∧ e.val 1 = .ptr h.n 0 0 ∧ e.val 2 = .ptr (h.n + 1) 0 0 ∧ e.val 3 = .ptr (h.n + 2) 0 0 ∧ e.val 28 = fv ∧ e.val 29 = .int .i64 p.funcs.length ∧ e.val 30 = .int .i64 x ∧ HFrame h h' [] [] ∧ h.n + 3 ≤ h'.n ∧
    h'.get h.n = .cells 0 false [tv, gv, fv] ∧ h'.get (h.n + 1) = .cells 0 false [.int .i64 0, .int .i64 0, .int .i64 0] ∧ h'.get (h.n + 2) = .cells 0 false [tv, gv, fv, .int .i64 f.params, sv, rv, cv, .int .i64 0, .int .i64 0, .int .i64 0, .int .i64 0, .int .i64 0, .int .u64 0, .nils] ∧
    headsF p.types.length p.funcs 0 = headsF p.types.length (p.funcs.drop x) x) p.funcs.length ?_ ?_
  · refine ⟨0, ⟨0, [], [], []⟩, .nils, .nils, .nils, by omega, ?_, ?_, ?_, ?_, ?_, ?_, f01, n1, gP1, gR1, gC1, by simp⟩ <;> simp -implicitDefEqProofs (disch := first | decide | assumption | omega | (simp -implicitDefEqProofs only [AM.RN]; first | done | omega) | fail) only [↓AM.R0, AM.R1, AM.R2, Nat.reduceAdd, Nat.reduceLeDiff, Nat.reduceEqDiff, Int.reduceToNat, Nat.reduceLT, ↓reduceIte, Int.reduceEq, Int.reduceLT, Int.reduceLE] <;> rfl
  · rintro k e h' ⟨x, fx, sx, rx, cx, hk, e1, e2, e3, e28, e29, e30, fr, hn, gP, gR, gC, hF⟩
    simp -implicitDefEqProofs (disch := first | decide | assumption | omega | (simp -implicitDefEqProofs only [AM.RN]; first | done | omega) | fail) only [↓AM.R0, AM.R1, AM.R2, Nat.reduceAdd, Nat.reduceLeDiff, Nat.reduceEqDiff, Int.reduceToNat, Nat.reduceLT, ↓reduceIte, Int.reduceEq, Int.reduceLT, Int.reduceLE, e28, e29, e30]
    refine AM.cI_bool (fun hc => ?_) (fun hc => ?_)
    · simp only [decide_eq_true_eq] at hc
      obtain ⟨f, hf⟩ : ∃ f, p.funcs[x]? = some f := ⟨_, List.getElem?_eq_getElem (by omega)⟩
      obtain ⟨j, g2, off, vs, ro, row, x1, x2, x3, x4, x5, x6, sv, rv, cv, rfl, ys, yr, yc⟩ := (RF.mono (h' := h') (R' := FuncR h) (fun _ _ q => q) fr.n (fun j hj => fr.get j hj (by simp))).ix hf .i64
      have k1 := SlIn.cellv ys
      have k2 := SlIn.cellv yr
      have k3 := SlR.cellv yc
      have hw : IntKind.i64.wrap ((x : Int) + 1) = ((x + 1 : Nat) : Int) := wrap64 (by omega) (by omega)
      rw [headsF_drop hf] at hF
      simp -implicitDefEqProofs (disch := first | decide | assumption | omega | (simp -implicitDefEqProofs only [AM.RN]; first | done | omega) | fail) only [↓AM.R0, AM.R1, AM.R2, Nat.reduceAdd, Nat.reduceLeDiff, Nat.reduceEqDiff, Int.reduceToNat, Nat.reduceLT, ↓reduceIte, Int.reduceEq, Int.reduceLT, Int.reduceLE, e1, e2, e3, e28, e29, e30, x1, x2, x5, k1, k2, k3, gC]
      have f2 := ((fr.pushTmp (.cells 0 false [.int .i64 0, .nils, .nils, .nils])).setTmp (i := h'.n) fr.n (.cells 0 false [.int .i64 f.params, sv, rv, cv])).setTmp (i := h.n + 2) (by omega) (.cells 0 false [tv, gv, fv, .int .i64 f.params, sv, rv, cv, .int .i64 0, .int .i64 0, .int .i64 0, .int .i64 0, .int .i64 0, .int .u64 0, .nils])
      obtain ⟨hB, hhB⟩ : ∃ hB, hB = ((h'.push (.cells 0 false [.int .i64 0, .nils, .nils, .nils])).set h'.n (.cells 0 false [.int .i64 f.params, sv, rv, cv])).set (h.n + 2) (.cells 0 false [tv, gv, fv, .int .i64 f.params, sv, rv, cv, .int .i64 0, .int .i64 0, .int .i64 0, .int .i64 0, .int .i64 0, .int .u64 0, .nils]) := ⟨_, rfl⟩
      have nB : hB.n = h'.n + 1 := by rw [hhB]; rfl
      have gP2 : hB.get h.n = .cells 0 false [tv, gv, fv] := by rw [hhB, AHeap.get_set_ne _ _ (by omega), AHeap.get_set_ne _ _ (by omega), AHeap.get_push_ne _ _ (by omega)]; exact gP
      have gR2 : hB.get (h.n + 1) = .cells 0 false [.int .i64 0, .int .i64 0, .int .i64 0] := by rw [hhB, AHeap.get_set_ne _ _ (by omega), AHeap.get_set_ne _ _ (by omega), AHeap.get_push_ne _ _ (by omega)]; exact gR
      have gC2 : hB.get (h.n + 2) = .cells 0 false [tv, gv, fv, .int .i64 f.params, sv, rv, cv, .int .i64 0, .int .i64 0, .int .i64 0, .int .i64 0, .int .i64 0, .int .u64 0, .nils] := by rw [hhB]; exact AHeap.get_set_same _ _ _
      rw [← hhB] at f2 ⊢
      clear hhB
      have C2 : CkR hB (h.n + 2) p f ⟨0, 0, 0, 0, 0, []⟩ := mkCk f2 gC2 (by omega) RT RG RF ys yr yc (by simp) (.inl (.inl ⟨rfl, rfl⟩))
      have hdz : decide ((x : Int) = 0) = decide (x = 0) := decide_eq_decide.2 (by omega)
      rw [hdz]
      refine AM.callI_of (head C2 (ok.funcs f (List.mem_of_getElem? hf)) (decide (x = 0))) ?_
      rintro r h3 ⟨f3, rfl⟩
      have gP3 := (f3.get h.n (by omega) (by simp)).trans gP2
      have gR3 := (f3.get (h.n + 1) (by omega) (by simp)).trans gR2
      have gC3 := (f3.get (h.n + 2) (by omega) (by simp)).trans gC2
      have n3 : h.n + 3 ≤ h3.n := by have := f3.n; omega
      have f23 := f2.trans f3
      simp -implicitDefEqProofs (disch := first | decide | assumption | omega | (simp -implicitDefEqProofs only [AM.RN]; first | done | omega) | fail) only [↓AM.R0, AM.R1, AM.R2, Nat.reduceAdd, Nat.reduceLeDiff, Nat.reduceEqDiff, Int.reduceToNat, Nat.reduceLT, ↓reduceIte, Int.reduceEq, Int.reduceLT, Int.reduceLE]
      refine AM.cI_bool (fun hd => ?_) (fun hd => ?_)
      · have hd' : headF p.types.length f (decide (x = 0)) ≠ 0 := by simpa using hd
        rw [if_pos hd'] at hF
        rw [hF, if_pos hd'] at hX
        simp -implicitDefEqProofs (disch := first | decide | assumption | omega | (simp -implicitDefEqProofs only [AM.RN]; first | done | omega) | fail) only [↓AM.R0, AM.R1, AM.R2, Nat.reduceAdd, Nat.reduceLeDiff, Nat.reduceEqDiff, Int.reduceToNat, Nat.reduceLT, ↓reduceIte, Int.reduceEq, Int.reduceLT, Int.reduceLE, e2, gR3]
        subst hQ
        exact ⟨f23.setTmp (by omega) _, by rw [hX]⟩
      · have hd' : ¬ headF p.types.length f (decide (x = 0)) ≠ 0 := by simpa using hd
        rw [if_neg hd'] at hF
        simp -implicitDefEqProofs (disch := first | decide | assumption | omega | (simp -implicitDefEqProofs only [AM.RN]; first | done | omega) | fail) only [↓AM.R0, AM.R1, AM.R2, Nat.reduceAdd, Nat.reduceLeDiff, Nat.reduceEqDiff, Int.reduceToNat, Nat.reduceLT, ↓reduceIte, Int.reduceEq, Int.reduceLT, Int.reduceLE, e1, e2, e3, e28, e29, e30, hw]
        exact ⟨p.funcs.length - (x + 1), by omega, x + 1, f, sv, rv, cv, by omega, rfl, f23, n3, gP3, gR3, gC3, hF⟩
    · simp only [decide_eq_false_iff_not] at hc
      rw [List.drop_of_length_le (by omega)] at hF
      have hall : (headsF p.types.length p.funcs 0).1 = 0 := by rw [hF]; rfl
      have hHp : Hp p := fun g hg => by
        obtain ⟨b, hb⟩ := headsF_ok hall g hg
        obtain ⟨q1, q2, q3, q4, q5, _⟩ := headF_ok hb
        exact ⟨q4, q5, q1, q2⟩
      have hHs : ∀ g, g ∈ p.funcs → Hs p g.slots ∧ g.code.length ≤ 256 := fun g hg => by
        obtain ⟨b, hb⟩ := headsF_ok hall g hg
        obtain ⟨q1, q2, q3, q4, q5, q6, _⟩ := headF_ok hb
        exact ⟨q6, q3⟩
      rw [hF, if_neg (by simp [headsF])] at hX
      clear hF hall
      simp -implicitDefEqProofs (disch := first | decide | assumption | omega | (simp -implicitDefEqProofs only [AM.RN]; first | done | omega) | fail) only [↓AM.R0, AM.R1, AM.R2, Nat.reduceAdd, Nat.reduceLeDiff, Nat.reduceEqDiff, Int.reduceToNat, Nat.reduceLT, ↓reduceIte, Int.reduceEq, Int.reduceLT, Int.reduceLE, e1, gP, l3]
      refine AM.loopI_of (fun k e h' => ∃ (x : Nat) (a0 a1 a2 a3 a4 a5 a6 a7 a8 a9 a10 : AVal), k + x = p.funcs.length ∧ e.val 1 = .ptr h.n 0 0 ∧ e.val 2 = .ptr (h.n + 1) 0 0 ∧ e.val 3 = .ptr (h.n + 2) 0 0 ∧ e.val 50 = fv ∧ e.val 51 = .int .i64 p.funcs.length ∧ e.val 52 = .int .i64 x ∧ HFrame h h' [] [] ∧ h.n + 3 ≤ h'.n ∧
        h'.get (h.n + 1) = .cells 0 false [.int .i64 0, .int .i64 0, .int .i64 0] ∧ h'.get (h.n + 2) = .cells 0 false [tv, gv, fv, a0, a1, a2, a3, a4, a5, a6, a7, a8, a9, a10] ∧
        codesF p p.funcs 0 = codesF p (p.funcs.drop x) x) p.funcs.length ?_ ?_
      · refine ⟨0, _, _, _, _, _, _, _, _, _, _, _, by omega, ?_, ?_, ?_, ?_, ?_, ?_, fr, hn, gR, gC, by simp⟩ <;> simp -implicitDefEqProofs (disch := first | decide | assumption | omega | (simp -implicitDefEqProofs only [AM.RN]; first | done | omega) | fail) only [↓AM.R0, AM.R1, AM.R2, Nat.reduceAdd, Nat.reduceLeDiff, Nat.reduceEqDiff, Int.reduceToNat, Nat.reduceLT, ↓reduceIte, Int.reduceEq, Int.reduceLT, Int.reduceLE, e1, e2, e3] <;> rfl
      · clear e1 e2 e3 e28 e29 e30 fr hn gP gR gC hk hc
        rintro k e h' ⟨x, a0, a1, a2, a3, a4, a5, a6, a7, a8, a9, a10, hk, e1, e2, e3, e50, e51, e52, fr, hn, gR, gC, hF⟩
        simp -implicitDefEqProofs (disch := first | decide | assumption | omega | (simp -implicitDefEqProofs only [AM.RN]; first | done | omega) | fail) only [↓AM.R0, AM.R1, AM.R2, Nat.reduceAdd, Nat.reduceLeDiff, Nat.reduceEqDiff, Int.reduceToNat, Nat.reduceLT, ↓reduceIte, Int.reduceEq, Int.reduceLT, Int.reduceLE, e50, e51, e52]
        refine AM.cI_bool (fun hc => ?_) (fun hc => ?_)
        · simp only [decide_eq_true_eq] at hc
          obtain ⟨f, hf⟩ : ∃ f, p.funcs[x]? = some f := ⟨_, List.getElem?_eq_getElem (by omega)⟩
          obtain ⟨j, g2, off, vs, ro, row, x1, x2, x3, x4, x5, x6, sv, rv, cv, rfl, ys, yr, yc⟩ := (RF.mono (h' := h') (R' := FuncR h) (fun _ _ q => q) fr.n (fun j hj => fr.get j hj (by simp))).ix hf .i64
          have k1 := SlIn.cellv ys
          have k2 := SlIn.cellv yr
          have k3 := SlR.cellv yc
          have lc := yc.len
          have hw : IntKind.i64.wrap ((x : Int) + 1) = ((x + 1 : Nat) : Int) := wrap64 (by omega) (by omega)
          rw [codesF_drop hf] at hF
          simp -implicitDefEqProofs (disch := first | decide | assumption | omega | (simp -implicitDefEqProofs only [AM.RN]; first | done | omega) | fail) only [↓AM.R0, AM.R1, AM.R2, Nat.reduceAdd, Nat.reduceLeDiff, Nat.reduceEqDiff, Int.reduceToNat, Nat.reduceLT, ↓reduceIte, Int.reduceEq, Int.reduceLT, Int.reduceLE, e1, e2, e3, e50, e51, e52, x1, x2, x5, k1, k2, k3, gC, lc]
          have f2 := ((fr.pushTmp (.cells 0 false [.int .i64 0, .nils, .nils, .nils])).setTmp (i := h'.n) fr.n (.cells 0 false [.int .i64 f.params, sv, rv, cv])).setTmp (i := h.n + 2) (by omega) (.cells 0 false [tv, gv, fv, .int .i64 f.params, sv, rv, cv, a4, a5, a6, a7, a8, a9, a10])
          obtain ⟨hB, hhB⟩ : ∃ hB, hB = ((h'.push (.cells 0 false [.int .i64 0, .nils, .nils, .nils])).set h'.n (.cells 0 false [.int .i64 f.params, sv, rv, cv])).set (h.n + 2) (.cells 0 false [tv, gv, fv, .int .i64 f.params, sv, rv, cv, a4, a5, a6, a7, a8, a9, a10]) := ⟨_, rfl⟩
          have nB : hB.n = h'.n + 1 := by rw [hhB]; rfl
          have gR2 : hB.get (h.n + 1) = .cells 0 false [.int .i64 0, .int .i64 0, .int .i64 0] := by rw [hhB, AHeap.get_set_ne _ _ (by omega), AHeap.get_set_ne _ _ (by omega), AHeap.get_push_ne _ _ (by omega)]; exact gR
          have gC2 : hB.get (h.n + 2) = .cells 0 false [tv, gv, fv, .int .i64 f.params, sv, rv, cv, a4, a5, a6, a7, a8, a9, a10] := by rw [hhB]; exact AHeap.get_set_same _ _ _
          rw [← hhB] at f2 ⊢
          clear hhB
          obtain ⟨hs1, hs2⟩ := hHs f (List.mem_of_getElem? hf)
          refine AM.loopI_of (fun k e h2 => ∃ (y : Nat) (b4 b5 b6 b7 b8 b9 b10 : AVal), k + y = f.code.length ∧ e.val 1 = .ptr h.n 0 0 ∧ e.val 2 = .ptr (h.n + 1) 0 0 ∧ e.val 3 = .ptr (h.n + 2) 0 0 ∧ e.val 9 = .int .i64 x ∧ e.val 50 = fv ∧ e.val 51 = .int .i64 p.funcs.length ∧ e.val 52 = .int .i64 x ∧ e.val 62 = cv ∧ e.val 63 = .int .i64 f.code.length ∧ e.val 64 = .int .i64 y ∧ HFrame h h2 [] [] ∧ h.n + 3 ≤ h2.n ∧
            h2.get (h.n + 1) = .cells 0 false [.int .i64 0, .int .i64 0, .int .i64 0] ∧ h2.get (h.n + 2) = .cells 0 false [tv, gv, fv, .int .i64 f.params, sv, rv, cv, b4, b5, b6, b7, b8, b9, b10] ∧
            firstE (insF p f) f.code 0 = firstE (insF p f) (f.code.drop y) y) f.code.length ?_ ?_
          · refine ⟨0, _, _, _, _, _, _, _, by omega, ?_, ?_, ?_, ?_, ?_, ?_, ?_, ?_, ?_, ?_, f2, by omega, gR2, gC2, by simp⟩ <;> simp -implicitDefEqProofs (disch := first | decide | assumption | omega | (simp -implicitDefEqProofs only [AM.RN]; first | done | omega) | fail) only [↓AM.R0, AM.R1, AM.R2, Nat.reduceAdd, Nat.reduceLeDiff, Nat.reduceEqDiff, Int.reduceToNat, Nat.reduceLT, ↓reduceIte, Int.reduceEq, Int.reduceLT, Int.reduceLE, e1, e2, e3, e50, e51, e52] <;> rfl
          · clear e1 e2 e3 e50 e51 e52 f2 nB gR2 gC2 gR gC
            rintro k2 e h2 ⟨y, b4, b5, b6, b7, b8, b9, b10, hky, e1, e2, e3, e9, e50, e51, e52, e62, e63, e64, f2, n2, gR, gC, hE⟩
            simp -implicitDefEqProofs (disch := first | decide | assumption | omega | (simp -implicitDefEqProofs only [AM.RN]; first | done | omega) | fail) only [↓AM.R0, AM.R1, AM.R2, Nat.reduceAdd, Nat.reduceLeDiff, Nat.reduceEqDiff, Int.reduceToNat, Nat.reduceLT, ↓reduceIte, Int.reduceEq, Int.reduceLT, Int.reduceLE, e62, e63, e64]
            refine AM.cI_bool (fun hd => ?_) (fun hd => ?_)
            · simp only [decide_eq_true_eq] at hd
              obtain ⟨z, hz⟩ : ∃ z, f.code[y]? = some z := ⟨_, List.getElem?_eq_getElem (by omega)⟩
              obtain ⟨j, g2, off, vs, ro, row, x1, x2, x3, x4, x5, x6, q7, lz, rfl, xl⟩ := (yc.mono (h' := h2) (R' := InsR h) (fun _ _ q => q) f2.n (fun j hj => f2.get j hj (by simp))).ix hz .i64
              have k4 := SlIn.cellv xl
              have kb := SlIn.beqv xl
              have hw2 : IntKind.i64.wrap ((y : Int) + 1) = ((y + 1 : Nat) : Int) := wrap64 (by omega) (by omega)
              rw [firstE_drop hz] at hE
              simp -implicitDefEqProofs (disch := first | decide | assumption | omega | (simp -implicitDefEqProofs only [AM.RN]; first | done | omega) | fail) only [↓AM.R0, AM.R1, AM.R2, Nat.reduceAdd, Nat.reduceLeDiff, Nat.reduceEqDiff, Int.reduceToNat, Nat.reduceLT, ↓reduceIte, Int.reduceEq, Int.reduceLT, Int.reduceLE, e1, e2, e3, e9, e50, e51, e52, e62, e63, e64, x1, x2, x5, k4, kb, gC]
              have f3 := (((f2.pushTmp (.cells 0 false [.int .i64 0, .int .i64 0, .int .i64 0, .int .i64 0, .int .u64 0, .nils])).setTmp (i := h2.n) f2.n (.cells 0 false [.int .i64 z.op, .int .i64 z.a, .int .i64 z.b, .int .i64 z.c, .int .u64 z.imm, lz])).setTmp (i := h.n + 2) (by omega) (.cells 0 false [tv, gv, fv, .int .i64 f.params, sv, rv, cv, .int .i64 y, b5, b6, b7, b8, b9, b10])).setTmp (i := h.n + 2) (by omega) (.cells 0 false [tv, gv, fv, .int .i64 f.params, sv, rv, cv, .int .i64 y, .int .i64 z.op, .int .i64 z.a, .int .i64 z.b, .int .i64 z.c, .int .u64 z.imm, lz])
              obtain ⟨hB, hhB⟩ : ∃ hB, hB = (((h2.push (.cells 0 false [.int .i64 0, .int .i64 0, .int .i64 0, .int .i64 0, .int .u64 0, .nils])).set h2.n (.cells 0 false [.int .i64 z.op, .int .i64 z.a, .int .i64 z.b, .int .i64 z.c, .int .u64 z.imm, lz])).set (h.n + 2) (.cells 0 false [tv, gv, fv, .int .i64 f.params, sv, rv, cv, .int .i64 y, b5, b6, b7, b8, b9, b10])).set (h.n + 2) (.cells 0 false [tv, gv, fv, .int .i64 f.params, sv, rv, cv, .int .i64 y, .int .i64 z.op, .int .i64 z.a, .int .i64 z.b, .int .i64 z.c, .int .u64 z.imm, lz]) := ⟨_, rfl⟩
              have nB : hB.n = h2.n + 1 := by rw [hhB]; rfl
              have gR2 : hB.get (h.n + 1) = .cells 0 false [.int .i64 0, .int .i64 0, .int .i64 0] := by rw [hhB, AHeap.get_set_ne _ _ (by omega), AHeap.get_set_ne _ _ (by omega), AHeap.get_set_ne _ _ (by omega), AHeap.get_push_ne _ _ (by omega)]; exact gR
              have gC2 : hB.get (h.n + 2) = .cells 0 false [tv, gv, fv, .int .i64 f.params, sv, rv, cv, .int .i64 y, .int .i64 z.op, .int .i64 z.a, .int .i64 z.b, .int .i64 z.c, .int .u64 z.imm, lz] := by rw [hhB]; exact AHeap.get_set_same _ _ _
              rw [← hhB] at f3 ⊢
              clear hhB
              have C3 : CkR hB (h.n + 2) p f z := mkCk f3 gC2 (by omega) RT RG RF ys yr yc q7 xl
              refine AM.callI_of (one C3 hs1 t5 t1 hHp) ?_
              rintro r h3 ⟨f34, rfl⟩
              have gR3 := (f34.get (h.n + 1) (by omega) (by simp)).trans gR2
              have gC3 := (f34.get (h.n + 2) (by omega) (by simp)).trans gC2
              have n3 : h.n + 3 ≤ h3.n := by have := f34.n; omega
              have f4 := f3.trans f34
              simp -implicitDefEqProofs (disch := first | decide | assumption | omega | (simp -implicitDefEqProofs only [AM.RN]; first | done | omega) | fail) only [↓AM.R0, AM.R1, AM.R2, Nat.reduceAdd, Nat.reduceLeDiff, Nat.reduceEqDiff, Int.reduceToNat, Nat.reduceLT, ↓reduceIte, Int.reduceEq, Int.reduceLT, Int.reduceLE]
              refine AM.cI_bool (fun hg => ?_) (fun hg => ?_)
              · have hg' : insF p f z ≠ 0 := by simpa using hg
                rw [if_pos hg'] at hE
                rw [hE, if_pos hg'] at hF
                rw [hF] at hX
                simp -implicitDefEqProofs (disch := first | decide | assumption | omega | (simp -implicitDefEqProofs only [AM.RN]; first | done | omega) | fail) only [↓AM.R0, AM.R1, AM.R2, Nat.reduceAdd, Nat.reduceLeDiff, Nat.reduceEqDiff, Int.reduceToNat, Nat.reduceLT, ↓reduceIte, Int.reduceEq, Int.reduceLT, Int.reduceLE, e2, e9, gR3]
                subst hQ
                exact ⟨f4.setTmp (by omega) _, by rw [hX]⟩
              · have hg' : ¬ insF p f z ≠ 0 := by simpa using hg
                rw [if_neg hg'] at hE
                simp -implicitDefEqProofs (disch := first | decide | assumption | omega | (simp -implicitDefEqProofs only [AM.RN]; first | done | omega) | fail) only [↓AM.R0, AM.R1, AM.R2, Nat.reduceAdd, Nat.reduceLeDiff, Nat.reduceEqDiff, Int.reduceToNat, Nat.reduceLT, ↓reduceIte, Int.reduceEq, Int.reduceLT, Int.reduceLE, e1, e2, e3, e9, e50, e51, e52, e62, e63, e64, hw2]
                exact ⟨f.code.length - (y + 1), by omega, y + 1, _, _, _, _, _, _, _, by omega, rfl, f4, n3, gR3, gC3, hE⟩
            · simp only [decide_eq_false_iff_not] at hd
              rw [List.drop_of_length_le (by omega)] at hE
              rw [hE, if_neg (by simp [firstE])] at hF
              simp -implicitDefEqProofs (disch := first | decide | assumption | omega | (simp -implicitDefEqProofs only [AM.RN]; first | done | omega) | fail) only [↓AM.R0, AM.R1, AM.R2, Nat.reduceAdd, Nat.reduceLeDiff, Nat.reduceEqDiff, Int.reduceToNat, Nat.reduceLT, ↓reduceIte, Int.reduceEq, Int.reduceLT, Int.reduceLE, e1, e2, e3, e50, e51, e52, hw]
              exact ⟨p.funcs.length - (x + 1), by omega, x + 1, _, _, _, _, _, _, _, _, _, _, _, by omega, rfl, f2, n2, gR, gC, hF⟩
        · simp only [decide_eq_false_iff_not] at hc
          rw [List.drop_of_length_le (by omega)] at hF
          rw [hF] at hX
          simp -implicitDefEqProofs (disch := first | decide | assumption | omega | (simp -implicitDefEqProofs only [AM.RN]; first | done | omega) | fail) only [↓AM.R0, AM.R1, AM.R2, Nat.reduceAdd, Nat.reduceLeDiff, Nat.reduceEqDiff, Int.reduceToNat, Nat.reduceLT, ↓reduceIte, Int.reduceEq, Int.reduceLT, Int.reduceLE, e2, gR]
          subst hQ
          exact ⟨fr.setTmp (by omega) _, by rw [hX]; rfl⟩
end Go.Proofs.Ytofcnjglnnoimaa.Vf

namespace Go.Proofs.Ytofcnjglnnoimaa.Vf
open Go Go.AM Go.Proofs.Ytofcnjglnnoimaa.AmGW
attribute [local irreducible] AM.wp AM.wpIs AM.wpTr AM.opI AM.gI AM.cI AM.trI AM.callI AM.fnI AM.trG AM.trOp AM.trCall AM.seqC AM.loopI
set_option maxRecDepth 100000
set_option linter.unusedVariables false
set_option linter.unusedSimpArgs false

/-- A slice of numbers in an object of its own. -/
theorem litK {h : AHeap} {id : Nat} {l : List Int} {vs : List AVal} (g : h.get id = .cells 0 false vs) (lt : id < h.n) (e : vs = l.map fun n => .int .i64 n) : SlIn h 1 encK (.sl id 0 0 l.length 1) l := by
  have hm : ∀ l : List Int, l.flatMap encK = l.map fun n => .int .i64 n := fun l => by
    induction l with
    | nil => rfl
    | cons a l ih => rw [List.flatMap_cons, ih]; rfl
  subst e
  exact .inl (.inr ⟨id, 0, 0, _, false, rfl, g, lt, by simp, by rw [hm, List.drop_zero, List.take_of_length_le (by simp)]⟩)

inductive All2 {α β : Type} (R : α → β → Prop) : List α → List β → Prop
  | nil : All2 R [] []
  | cons {a b l m} : R a b → All2 R l m → All2 R (a :: l) (b :: m)
theorem All2.len {α β : Type} {R : α → β → Prop} {l : List α} {m : List β} (h : All2 R l m) : l.length = m.length := by
  induction h with
  | nil => rfl
  | cons _ _ ih => simp [ih]
theorem SlR.lit {α : Type} {h : AHeap} {esz : Nat} {R : α → List AVal → Prop} {id : Nat} {l : List α} {rows : List (List AVal)} {vs : List AVal} {ro : Bool} (g : h.get id = .cells 0 ro vs) (lt : id < h.n) (e : vs = rows.flatten) (he : ∀ row, row ∈ rows → row.length = esz)
    (hR : All2 R l rows) : SlR h esz R (.sl id 0 0 l.length esz) l := by
  have hl : l.length = rows.length := hR.len
  have hf : rows.flatten.length = rows.length * esz := by
    clear hR hl e
    induction rows with
    | nil => simp
    | cons r rs ih =>
      have := he r List.mem_cons_self
      have h3 := ih (fun row h => he row (List.mem_cons_of_mem _ h))
      simp only [List.flatten_cons, List.length_append, List.length_cons, Nat.add_mul, Nat.one_mul]; omega
  refine .inr (.inr ⟨id, 0, 0, vs, ro, rows, rfl, g, lt, by rw [e, hf, hl]; omega, by rw [List.drop_zero, e, List.take_of_length_le (by rw [hf, hl]; exact Nat.le_refl _)], hl.symm, he, ?_⟩)
  clear he hf hl e g
  induction hR with
  | nil => intro i a row h1; simp at h1
  | cons q _ ih =>
    intro i a row h1 h2
    cases i with
    | zero => simp only [List.getElem?_cons_zero, Option.some.injEq] at h1 h2; subst h1 h2; exact q
    | succ i => exact ih i a row (by simpa using h1) (by simpa using h2)
theorem insNil {h : AHeap} {i : PIns} (hi : i.imm ≤ 18446744073709551615) (e : i.list = []) : InsR h i [.int .i64 i.op, .int .i64 i.a, .int .i64 i.b, .int .i64 i.c, .int .u64 i.imm, .nils] := ⟨hi, .nils, rfl, by rw [e]; exact .inl (.inl ⟨rfl, rfl⟩)⟩
theorem nilK {h : AHeap} : SlIn h 1 encK .nils [] := .inl (.inl ⟨rfl, rfl⟩)

def goodP : PProg := ⟨[], [], [⟨0, [0], [], [⟨1, 0, 0, 0, 7, []⟩, ⟨48, 0, 0, 0, 0, []⟩, ⟨36, 0, 0, 0, 0, []⟩]⟩]⟩
def badP : PProg := ⟨[], [], [⟨0, [0], [], [⟨48, 1, 0, 0, 0, []⟩, ⟨36, 0, 0, 0, 0, []⟩]⟩]⟩
theorem good_ok : goodP.Ok := by
  refine ⟨by simp [goodP], by simp [goodP], fun f hf => ?_⟩
  simp only [goodP, List.mem_cons, List.not_mem_nil, or_false] at hf
  subst hf
  refine ⟨by decide, by decide, by decide, fun i hi => ?_⟩
  simp only [List.mem_cons, List.not_mem_nil, or_false] at hi
  rcases hi with rfl | rfl | rfl <;> exact ⟨by decide, by decide, by decide, by decide, by decide, by simp⟩
theorem bad_ok : badP.Ok := by
  refine ⟨by simp [badP], by simp [badP], fun f hf => ?_⟩
  simp only [badP, List.mem_cons, List.not_mem_nil, or_false] at hf
  subst hf
  refine ⟨by decide, by decide, by decide, fun i hi => ?_⟩
  simp only [List.mem_cons, List.not_mem_nil, or_false] at hi
  rcases hi with rfl | rfl <;> exact ⟨by decide, by decide, by decide, by decide, by decide, by simp⟩
theorem good_check : checkF goodP = (0, 0, 0) := by rfl
theorem bad_check : checkF badP = (11, 0, 0) := by rfl

set_option maxHeartbeats 1000000 in
theorem awake (h : AHeap) : CallP AP 18 [] h fun r h' => HFrame h h' [] [] ∧ r = .bool true := by
  refine callP (rfl : Tr.get AP 18 = some A18) ?_
  generalize hQ : (fun (r : AVal) (h' : AHeap) => _) = Q
  simp -implicitDefEqProofs (disch := first | decide | assumption | omega | (simp -implicitDefEqProofs only [AM.RN]; first | done | omega) | fail) only [↓AM.R0, AM.R1, AM.R2, Nat.reduceAdd, Nat.reduceLeDiff, Nat.reduceEqDiff, Int.reduceToNat, Nat.reduceLT, ↓reduceIte, Int.reduceEq, Int.reduceLT, Int.reduceLE, AM.a_buildSlice, List.range, List.range.loop, List.getD_cons_zero, List.getD_cons_succ, Nat.mod_one, Nat.reduceMod, Nat.reduceMul]
  obtain ⟨hA, hhA⟩ : ∃ hA, hA = ((((((((((h.push (.cells 0 false [.int .i64 0])).push (.cells 0 false [.int .i64 1, .int .i64 0, .int .i64 0, .int .i64 0, .int .u64 7, .nils, .int .i64 48, .int .i64 0, .int .i64 0, .int .i64 0, .int .u64 0, .nils, .int .i64 36, .int .i64 0, .int .i64 0, .int .i64 0, .int .u64 0, .nils])).push
    (.cells 0 false [.int .i64 0, .sl h.n 0 0 1 1, .nils, .sl (h.n + 1) 0 0 3 6])).push (.cells 0 false [.nils, .nils, .nils])).set (h.n + 1 + 1 + 1) (.cells 0 false [.nils, .nils, .sl (h.n + 1 + 1) 0 0 1 4])).push (.cells 0 false [.int .i64 0])).push
    (.cells 0 false [.int .i64 48, .int .i64 1, .int .i64 0, .int .i64 0, .int .u64 0, .nils, .int .i64 36, .int .i64 0, .int .i64 0, .int .i64 0, .int .u64 0, .nils])).push (.cells 0 false [.int .i64 0, .sl (h.n + 1 + 1 + 1 + 1) 0 0 1 1, .nils, .sl (h.n + 1 + 1 + 1 + 1 + 1) 0 0 2 6])).push (.cells 0 false [.nils, .nils, .nils])).set
    (h.n + 1 + 1 + 1 + 1 + 1 + 1 + 1) (.cells 0 false [.nils, .nils, .sl (h.n + 1 + 1 + 1 + 1 + 1 + 1) 0 0 1 4])) := ⟨_, rfl⟩
  have g0 : hA.get h.n = .cells 0 false [.int .i64 0] := by rw [hhA]; simp -implicitDefEqProofs (disch := first | decide | assumption | omega | (simp -implicitDefEqProofs only [AM.RN]; first | done | omega) | fail) only [↓AM.R0, AM.R1, AM.R2, Nat.reduceAdd, Nat.reduceLeDiff, Nat.reduceEqDiff, Int.reduceToNat, Nat.reduceLT, ↓reduceIte, Int.reduceEq, Int.reduceLT, Int.reduceLE]
  have g1 : hA.get (h.n + 1) = .cells 0 false [.int .i64 1, .int .i64 0, .int .i64 0, .int .i64 0, .int .u64 7, .nils, .int .i64 48, .int .i64 0, .int .i64 0, .int .i64 0, .int .u64 0, .nils, .int .i64 36, .int .i64 0, .int .i64 0, .int .i64 0, .int .u64 0, .nils] := by rw [hhA]; simp -implicitDefEqProofs (disch := first | decide | assumption | omega | (simp -implicitDefEqProofs only [AM.RN]; first | done | omega) | fail) only [↓AM.R0, AM.R1, AM.R2, Nat.reduceAdd, Nat.reduceLeDiff, Nat.reduceEqDiff, Int.reduceToNat, Nat.reduceLT, ↓reduceIte, Int.reduceEq, Int.reduceLT, Int.reduceLE]
  have g2 : hA.get (h.n + 1 + 1) = .cells 0 false [.int .i64 0, .sl h.n 0 0 1 1, .nils, .sl (h.n + 1) 0 0 3 6] := by rw [hhA]; simp -implicitDefEqProofs (disch := first | decide | assumption | omega | (simp -implicitDefEqProofs only [AM.RN]; first | done | omega) | fail) only [↓AM.R0, AM.R1, AM.R2, Nat.reduceAdd, Nat.reduceLeDiff, Nat.reduceEqDiff, Int.reduceToNat, Nat.reduceLT, ↓reduceIte, Int.reduceEq, Int.reduceLT, Int.reduceLE]
  have g4 : hA.get (h.n + 1 + 1 + 1 + 1) = .cells 0 false [.int .i64 0] := by rw [hhA]; simp -implicitDefEqProofs (disch := first | decide | assumption | omega | (simp -implicitDefEqProofs only [AM.RN]; first | done | omega) | fail) only [↓AM.R0, AM.R1, AM.R2, Nat.reduceAdd, Nat.reduceLeDiff, Nat.reduceEqDiff, Int.reduceToNat, Nat.reduceLT, ↓reduceIte, Int.reduceEq, Int.reduceLT, Int.reduceLE]
  have g5 : hA.get (h.n + 1 + 1 + 1 + 1 + 1) = .cells 0 false [.int .i64 48, .int .i64 1, .int .i64 0, .int .i64 0, .int .u64 0, .nils, .int .i64 36, .int .i64 0, .int .i64 0, .int .i64 0, .int .u64 0, .nils] := by rw [hhA]; simp -implicitDefEqProofs (disch := first | decide | assumption | omega | (simp -implicitDefEqProofs only [AM.RN]; first | done | omega) | fail) only [↓AM.R0, AM.R1, AM.R2, Nat.reduceAdd, Nat.reduceLeDiff, Nat.reduceEqDiff, Int.reduceToNat, Nat.reduceLT, ↓reduceIte, Int.reduceEq, Int.reduceLT, Int.reduceLE]
  have g6 : hA.get (h.n + 1 + 1 + 1 + 1 + 1 + 1) = .cells 0 false [.int .i64 0, .sl (h.n + 1 + 1 + 1 + 1) 0 0 1 1, .nils, .sl (h.n + 1 + 1 + 1 + 1 + 1) 0 0 2 6] := by rw [hhA]; simp -implicitDefEqProofs (disch := first | decide | assumption | omega | (simp -implicitDefEqProofs only [AM.RN]; first | done | omega) | fail) only [↓AM.R0, AM.R1, AM.R2, Nat.reduceAdd, Nat.reduceLeDiff, Nat.reduceEqDiff, Int.reduceToNat, Nat.reduceLT, ↓reduceIte, Int.reduceEq, Int.reduceLT, Int.reduceLE]
  have g7 : hA.get (h.n + 1 + 1 + 1 + 1 + 1 + 1 + 1) = .cells 0 false [.nils, .nils, .sl (h.n + 1 + 1 + 1 + 1 + 1 + 1) 0 0 1 4] := by rw [hhA]; exact AHeap.get_set_same _ _ _
  have nA : hA.n = h.n + 8 := by rw [hhA]; rfl
  have fA : HFrame h hA [] [] := by
    rw [hhA]
    exact (((((((((((HFrame.refl (h := h) (F := []) (by simp)).pushTmp _).pushTmp _).pushTmp _).pushTmp _).setTmp (by omega) _).pushTmp _).pushTmp _).pushTmp _).pushTmp _).setTmp (by omega) _)
  rw [← hhA]
  clear hhA
  have RG : ProgR hA goodP [.nils, .nils, .sl (h.n + 1 + 1) 0 0 1 4] := by
    refine ⟨.nils, .nils, _, rfl, .inl ⟨rfl, rfl⟩, nilK, SlR.lit (l := goodP.funcs) (rows := [[.int .i64 0, .sl h.n 0 0 1 1, .nils, .sl (h.n + 1) 0 0 3 6]]) g2 (by omega) rfl (by simp) (.cons ⟨_, _, _, rfl, litK (l := [0]) g0 (by omega) rfl, nilK, SlR.lit (esz := 6) (l := [(⟨1, 0, 0, 0, 7, []⟩ : PIns), ⟨48, 0, 0, 0, 0, []⟩, ⟨36, 0, 0, 0, 0, []⟩]) (rows := [[.int .i64 1, .int .i64 0, .int .i64 0, .int .i64 0, .int .u64 7, .nils], [.int .i64 48, .int .i64 0, .int .i64 0, .int .i64 0, .int .u64 0, .nils], [.int .i64 36, .int .i64 0, .int .i64 0, .int .i64 0, .int .u64 0, .nils]]) g1 (by omega) rfl (by simp) ?_⟩ .nil)⟩
    exact .cons (insNil (i := ⟨1, 0, 0, 0, 7, []⟩) (by decide) rfl) (.cons (insNil (i := ⟨48, 0, 0, 0, 0, []⟩) (by decide) rfl) (.cons (insNil (i := ⟨36, 0, 0, 0, 0, []⟩) (by decide) rfl) .nil))
  have RB : ProgR hA badP [.nils, .nils, .sl (h.n + 1 + 1 + 1 + 1 + 1 + 1) 0 0 1 4] := by
    refine ⟨.nils, .nils, _, rfl, .inl ⟨rfl, rfl⟩, nilK, SlR.lit (l := badP.funcs) (rows := [[.int .i64 0, .sl (h.n + 1 + 1 + 1 + 1) 0 0 1 1, .nils, .sl (h.n + 1 + 1 + 1 + 1 + 1) 0 0 2 6]]) g6 (by omega) rfl (by simp) (.cons ⟨_, _, _, rfl, litK (l := [0]) g4 (by omega) rfl, nilK, SlR.lit (esz := 6) (l := [(⟨48, 1, 0, 0, 0, []⟩ : PIns), ⟨36, 0, 0, 0, 0, []⟩]) (rows := [[.int .i64 48, .int .i64 1, .int .i64 0, .int .i64 0, .int .u64 0, .nils], [.int .i64 36, .int .i64 0, .int .i64 0, .int .i64 0, .int .u64 0, .nils]]) g5 (by omega) rfl (by simp) ?_⟩ .nil)⟩
    exact .cons (insNil (i := ⟨48, 1, 0, 0, 0, []⟩) (by decide) rfl) (.cons (insNil (i := ⟨36, 0, 0, 0, 0, []⟩) (by decide) rfl) .nil)
  refine AM.callI_of (check RG good_ok) ?_
  rintro r h1 ⟨f1, rfl⟩
  rw [good_check]
  have g71 := (f1.get (h.n + 1 + 1 + 1 + 1 + 1 + 1 + 1) (by omega) (by simp)).trans g7
  have n1 : h.n + 8 ≤ h1.n := by have := f1.n; omega
  simp -implicitDefEqProofs (disch := first | decide | assumption | omega | (simp -implicitDefEqProofs only [AM.RN]; first | done | omega) | fail) only [↓AM.R0, AM.R1, AM.R2, Nat.reduceAdd, Nat.reduceLeDiff, Nat.reduceEqDiff, Int.reduceToNat, Nat.reduceLT, ↓reduceIte, Int.reduceEq, Int.reduceLT, Int.reduceLE, g71]
  refine AM.callI_of (check (RB.keep f1) bad_ok) ?_
  rintro r h2 ⟨f2, rfl⟩
  rw [bad_check]
  simp -implicitDefEqProofs (disch := first | decide | assumption | omega | (simp -implicitDefEqProofs only [AM.RN]; first | done | omega) | fail) only [↓AM.R0, AM.R1, AM.R2, Nat.reduceAdd, Nat.reduceLeDiff, Nat.reduceEqDiff, Int.reduceToNat, Nat.reduceLT, ↓reduceIte, Int.reduceEq, Int.reduceLT, Int.reduceLE]
  refine AM.callI_of (isRef 16 h2) ?_
  rintro r h3 ⟨rfl, rfl⟩
  simp -implicitDefEqProofs (disch := first | decide | assumption | omega | (simp -implicitDefEqProofs only [AM.RN]; first | done | omega) | fail) only [↓AM.R0, AM.R1, AM.R2, Nat.reduceAdd, Nat.reduceLeDiff, Nat.reduceEqDiff, Int.reduceToNat, Nat.reduceLT, ↓reduceIte, Int.reduceEq, Int.reduceLT, Int.reduceLE]
  refine AM.callI_of (isRef 2 h3) ?_
  rintro r h4 ⟨rfl, rfl⟩
  simp -implicitDefEqProofs (disch := first | decide | assumption | omega | (simp -implicitDefEqProofs only [AM.RN]; first | done | omega) | fail) only [↓AM.R0, AM.R1, AM.R2, Nat.reduceAdd, Nat.reduceLeDiff, Nat.reduceEqDiff, Int.reduceToNat, Nat.reduceLT, ↓reduceIte, Int.reduceEq, Int.reduceLT, Int.reduceLE]
  subst hQ
  exact ⟨(fA.trans f1).trans f2, rfl⟩
end Go.Proofs.Ytofcnjglnnoimaa.Vf

namespace Go.Proofs.Ytofcnjglnnoimaa.Vf
open Go Go.AM Go.Proofs.Ytofcnjglnnoimaa.AmGW
attribute [local irreducible] AM.wp AM.wpIs AM.wpTr AM.opI AM.gI AM.cI AM.trI AM.callI AM.fnI AM.trG AM.trOp AM.trCall AM.seqC AM.loopI
set_option maxRecDepth 100000
set_option linter.unusedVariables false
set_option linter.unusedSimpArgs false

theorem areF_ok {sl : List Int} {l : List (Int × Int)} (h : areF sl l = 0) : ∀ x, x ∈ l → 0 ≤ x.1 ∧ x.1 < sl.length := fun x hx => by
  unfold areF at h
  split at h
  · cases h
  · rename_i hn
    have := List.any_eq_false.1 (by simpa using hn : l.any (fun x => (slotK sl x.1).isNone) = false) x hx
    unfold slotK at this
    by_cases hq : 0 ≤ x.1 ∧ x.1 < sl.length
    · exact hq
    · rw [if_neg hq] at this; simp at this
theorem listF_ok {sl s k : List Int} (h : listF sl s k = 0) : ∀ n, n ∈ s → 0 ≤ n ∧ n < sl.length := fun n hn => by
  unfold listF at h
  split at h
  · cases h
  · rename_i hl
    obtain ⟨i, hi⟩ := List.getElem?_of_mem hn
    have hil := (List.getElem?_eq_some_iff.1 hi).1
    have hk : k[i]? = some k[i] := List.getElem?_eq_getElem (by omega)
    have hz : (s.zip k)[i]? = some (n, k[i]) := by rw [List.getElem?_zip_eq_some]; exact ⟨hi, hk⟩
    exact areF_ok h _ (List.mem_of_getElem? hz)
theorem toF_ok {f : PFunc} {n : Int} (h : toF f n = 0) : 0 ≤ n ∧ n < f.code.length := by
  unfold toF at h
  split at h
  · cases h
  · omega
theorem insF_ok {p : PProg} {f : PFunc} {i : PIns} (h : insF p f i = 0) : 1 ≤ i.op ∧ i.op ≤ 52 ∧ (i.op = 24 → i.a < f.code.length) ∧ (i.op = 25 → i.b < f.code.length) ∧ (i.op = 36 ∨ i.op = 35 → ∀ n, n ∈ i.list → 0 ≤ n ∧ n < f.slots.length) := by
  unfold insF at h
  split at h
  · cases h
  · split at h
    · rename_i hf; exact absurd h hf
    · refine ⟨by omega, by omega, fun ho => ?_, fun ho => ?_, fun ho => ?_⟩
      · simp [bodyF, orB, ho, jumpF] at h
        exact (toF_ok h).2
      · simp [bodyF, orB, ho, jumpF] at h
        split at h
        · exact (toF_ok h).2
        · rename_i hq; exact absurd h hq
      · rcases ho with ho | ho
        · simp [bodyF, orB, ho, callsF] at h
          exact listF_ok h
        · simp only [bodyF, orB, ho, callsF, goF] at h
          simp at h
          split at h
          · cases h
          · split at h
            · rename_i hq hn
              rw [List.getElem?_eq_getElem (by omega)] at hn; cases hn
            · exact listF_ok h

theorem firstE_at {α : Type} {f : α → Int} : ∀ {l : List α} {n : Nat}, (firstE f l n).1 ≠ 0 → (n : Int) ≤ (firstE f l n).2 ∧ (firstE f l n).2 < n + l.length
  | [], _, h => absurd rfl h
  | a :: l, n, h => by
    unfold firstE at h ⊢
    by_cases ha : f a ≠ 0
    · rw [if_pos ha]; simp only [List.length_cons]; omega
    · rw [if_neg ha] at h ⊢
      have := firstE_at h
      simp only [List.length_cons]; omega
theorem typesF_at (p : PProg) : 0 ≤ (typesF p).2 ∧ ((typesF p).2 ≤ p.types.length ∨ (typesF p).2 ≤ p.globals.length) := by
  unfold typesF
  split
  · simp
  · split
    · rename_i h
      have := firstE_at h
      omega
    · by_cases h : (firstE (fun k => if kindF p.types.length k = true then (0 : Int) else 15) p.globals 0).1 ≠ 0
      · have := firstE_at h
        omega
      · have : ∀ (l : List Int) (n : Nat), ¬ (firstE (fun k => if kindF p.types.length k = true then (0 : Int) else 15) l n).1 ≠ 0 → (firstE (fun k => if kindF p.types.length k = true then (0 : Int) else 15) l n).2 = 0 := by
          intro l
          induction l with
          | nil => intro n _; rfl
          | cons a l ih =>
            intro n hn
            unfold firstE at hn ⊢
            by_cases hk : kindF p.types.length a = true
            · simp only [hk, if_true, ne_eq, not_true_eq_false, if_false] at hn ⊢
              exact ih _ hn
            · exfalso; apply hn; simp [hk]
        rw [this _ _ h]
        omega
theorem headsF_at {nt : Nat} : ∀ {l : List PFunc} {n : Nat}, (headsF nt l n).1 ≠ 0 → (n : Int) ≤ (headsF nt l n).2 ∧ (headsF nt l n).2 < n + l.length
  | [], _, h => absurd rfl h
  | a :: l, n, h => by
    unfold headsF at h ⊢
    by_cases ha : headF nt a (decide (n = 0)) ≠ 0
    · rw [if_pos ha]; simp only [List.length_cons]; omega
    · rw [if_neg ha] at h ⊢
      have := headsF_at h
      simp only [List.length_cons]; omega
theorem codesF_at {p : PProg} : ∀ {l : List PFunc} {n : Nat}, (codesF p l n).1 ≠ 0 → (n : Int) ≤ (codesF p l n).2.1 ∧ (codesF p l n).2.1 < n + l.length ∧ 0 ≤ (codesF p l n).2.2 ∧ ∃ g, l[(codesF p l n).2.1.toNat - n]? = some g ∧ (codesF p l n).2.2 < g.code.length
  | [], _, h => absurd rfl h
  | a :: l, n, h => by
    unfold codesF at h ⊢
    by_cases ha : (firstE (insF p a) a.code 0).1 ≠ 0
    · rw [if_pos ha]
      have := firstE_at ha
      simp only [List.length_cons]
      refine ⟨by omega, by omega, by omega, a, ?_, by omega⟩
      simp
    · rw [if_neg ha] at h ⊢
      obtain ⟨q1, q2, q3, g, q4, q5⟩ := codesF_at h
      simp only [List.length_cons]
      refine ⟨by omega, by omega, q3, g, ?_, q5⟩
      rw [show (codesF p l (n + 1)).2.1.toNat - n = ((codesF p l (n + 1)).2.1.toNat - (n + 1)) + 1 by omega, List.getElem?_cons_succ]
      exact q4
theorem codesF_ok {p : PProg} : ∀ {l : List PFunc} {n : Nat}, (codesF p l n).1 = 0 → ∀ g, g ∈ l → ∀ i, i ∈ g.code → insF p g i = 0
  | [], _, _, g, hg => (nomatch hg)
  | a :: l, n, h, g, hg => by
    unfold codesF at h
    by_cases ha : (firstE (insF p a) a.code 0).1 ≠ 0
    · rw [if_pos ha] at h; exact absurd h ha
    · rw [if_neg ha] at h
      rcases List.mem_cons.1 hg with rfl | hg
      · exact firstE_ok (by simpa using ha)
      · exact codesF_ok h g hg

theorem checkF_at (p : PProg) (h : (checkF p).1 ≠ 0) : ((checkF p).2.1 = -1 ∧ 0 ≤ (checkF p).2.2 ∧ ((checkF p).2.2 ≤ p.types.length ∨ (checkF p).2.2 ≤ p.globals.length)) ∨
    (0 ≤ (checkF p).2.1 ∧ (checkF p).2.1 < p.funcs.length ∧ 0 ≤ (checkF p).2.2 ∧ ((checkF p).2.2 = 0 ∨ ∃ g, p.funcs[(checkF p).2.1.toNat]? = some g ∧ (checkF p).2.2 < g.code.length)) := by
  unfold checkF at h ⊢
  by_cases h1 : (typesF p).1 ≠ 0
  · rw [if_pos h1] at h ⊢
    exact .inl ⟨rfl, typesF_at p⟩
  · rw [if_neg h1] at h ⊢
    by_cases h2 : (headsF p.types.length p.funcs 0).1 ≠ 0
    · rw [if_pos h2] at h ⊢
      have := headsF_at h2
      refine .inr ⟨by simpa using this.1, by simpa using this.2, Int.le_refl _, .inl rfl⟩
    · rw [if_neg h2] at h ⊢
      obtain ⟨q1, q2, q3, g, q4, q5⟩ := codesF_at h
      exact .inr ⟨by omega, by omega, q3, .inr ⟨g, q4, q5⟩⟩
theorem checkF_ok {p : PProg} (h : (checkF p).1 = 0) : (∀ g, g ∈ p.funcs → g.code.length ≠ 0 ∧ 0 ≤ g.params ∧ g.params ≤ g.slots.length ∧ g.slots.length ≤ 32 ∧ g.results.length ≤ 32 ∧ g.code.length ≤ 256 ∧ ∀ i, i ∈ g.code → insF p g i = 0) ∧ 1 ≤ p.funcs.length ∧ p.funcs.length ≤ 32 ∧ p.types.length ≤ 32 ∧ p.globals.length ≤ 32 := by
  unfold checkF at h
  by_cases h1 : (typesF p).1 ≠ 0
  · rw [if_pos h1] at h; exact absurd h h1
  · rw [if_neg h1] at h
    by_cases h2 : (headsF p.types.length p.funcs 0).1 ≠ 0
    · rw [if_pos h2] at h; exact absurd h h2
    · rw [if_neg h2] at h
      obtain ⟨t1, t2, t3, t4, _⟩ := typesF_ok (by simpa using h1)
      refine ⟨fun g hg => ?_, t4, t3, t1, t2⟩
      obtain ⟨b, hb⟩ := headsF_ok (by simpa using h2) g hg
      obtain ⟨q1, q2, q3, q4, q5, _, q7⟩ := headF_ok hb
      exact ⟨q7, q4, q5, q1, q2, q3, codesF_ok h g hg⟩
end Go.Proofs.Ytofcnjglnnoimaa.Vf

namespace Go.Proofs.Ytofcnjglnnoimaa.Vf
open Go Go.AM Go.Proofs.Ytofcnjglnnoimaa.AmGW
attribute [local irreducible] AM.wp AM.wpIs AM.wpTr AM.opI AM.gI AM.cI AM.trI AM.callI AM.fnI AM.trG AM.trOp AM.trCall AM.seqC AM.loopI
set_option maxRecDepth 100000
set_option linter.unusedVariables false
set_option linter.unusedSimpArgs false

def goodX : PFunc := ⟨0, [0], [], [⟨1, 0, 0, 0, 5, []⟩, ⟨36, 0, 0, 0, 0, []⟩]⟩
def badX : PFunc := ⟨0, [0], [], [⟨1, 0, 0, 0, 5, []⟩, ⟨48, 1, 0, 0, 0, []⟩, ⟨36, 0, 0, 0, 0, []⟩]⟩
def plusX (p : PProg) (x : PFunc) : PProg := ⟨p.types, p.globals, p.funcs ++ [x]⟩
theorem insF_more {p : PProg} {x g : PFunc} {i : PIns} (h : insF p g i ≠ 13) : insF (plusX p x) g i = insF p g i := by
  have hgo : goF p g i ≠ 13 → goF (plusX p x) g i = goF p g i := fun hn => by
    by_cases ho : i.a < 0 ∨ (p.funcs.length : Int) ≤ i.a
    · exact absurd (by unfold goF; rw [if_pos ho]) hn
    · have h2 : ¬ (i.a < 0 ∨ (((plusX p x).funcs.length : Nat) : Int) ≤ i.a) := by simp only [plusX, List.length_append, List.length_cons, List.length_nil]; omega
      have h3 : (plusX p x).funcs[i.a.toNat]? = p.funcs[i.a.toNat]? := by simp only [plusX]; rw [List.getElem?_append_left (by omega)]
      unfold goF
      rw [if_neg ho, if_neg h2, h3]
  have hmem : memF (plusX p x) g.slots i = memF p g.slots i := rfl
  unfold insF at h ⊢
  by_cases h1 : i.op < 1 ∨ 52 < i.op
  · rw [if_pos h1, if_pos h1]
  · rw [if_neg h1, if_neg h1] at *
    by_cases h2 : formF i ≠ 0
    · rw [if_pos h2, if_pos h2]
    · rw [if_neg h2, if_neg h2] at *
      unfold bodyF at h ⊢
      rw [hmem]
      by_cases h3 : orB i.op [35, 36, 37, 38] = true
      · have : callsF (plusX p x) g i = callsF p g i := by
          unfold callsF at h ⊢
          by_cases h4 : i.op = 36
          · rw [if_pos h4, if_pos h4]
          · rw [if_neg h4, if_neg h4]
            refine hgo fun hq => ?_
            have h5 : i.op = 35 ∨ i.op = 37 ∨ i.op = 38 := by
              simp [orB] at h3; omega
            rcases h5 with h5 | h5 | h5 <;> (simp [h5, orB, hq] at h)
        rw [this]
      · have h3' : orB i.op [35, 36, 37, 38] = false := by simpa using h3
        simp only [h3', Bool.false_eq_true, if_false]
theorem firstE_more {p : PProg} {x g : PFunc} : ∀ {l : List PIns} {n : Nat}, (firstE (insF p g) l n).1 ≠ 13 → firstE (insF (plusX p x) g) l n = firstE (insF p g) l n
  | [], _, _ => rfl
  | a :: l, n, h => by
    unfold firstE at h ⊢
    by_cases ha : insF p g a ≠ 0
    · rw [if_pos ha] at h ⊢
      rw [insF_more h, if_pos ha]
    · rw [if_neg ha] at h ⊢
      rw [insF_more (by omega), if_neg ha, firstE_more h]
theorem codesF_more {p : PProg} {x : PFunc} : ∀ {l : List PFunc} {n : Nat}, (codesF p l n).1 ≠ 13 → codesF (plusX p x) l n = codesF p l n
  | [], _, _ => rfl
  | a :: l, n, h => by
    unfold codesF at h ⊢
    by_cases ha : (firstE (insF p a) a.code 0).1 ≠ 0
    · rw [if_pos ha] at h ⊢
      rw [firstE_more h, if_pos ha]
    · rw [if_neg ha] at h ⊢
      rw [firstE_more (by omega), if_neg ha, codesF_more h]
theorem headsF_app {nt : Nat} {x : PFunc} : ∀ (l : List PFunc) (n : Nat), headsF nt (l ++ [x]) n = if (headsF nt l n).1 ≠ 0 then headsF nt l n else headsF nt [x] (n + l.length)
  | [], n => by rw [if_neg (by simp [headsF])]; rfl
  | a :: l, n => by
    rw [List.cons_append, headsF, headsF]
    by_cases ha : headF nt a (decide (n = 0)) ≠ 0
    · rw [if_pos ha, if_pos ha, if_pos ha]
    · rw [if_neg ha, if_neg ha, headsF_app l (n + 1), List.length_cons, show n + 1 + l.length = n + (l.length + 1) by omega]
theorem codesF_app {p : PProg} {x : PFunc} : ∀ (l : List PFunc) (n : Nat), codesF p (l ++ [x]) n = if (codesF p l n).1 ≠ 0 then codesF p l n else codesF p [x] (n + l.length)
  | [], n => by rw [if_neg (by simp [codesF])]; rfl
  | a :: l, n => by
    rw [List.cons_append, codesF, codesF]
    by_cases ha : (firstE (insF p a) a.code 0).1 ≠ 0
    · rw [if_pos ha, if_pos ha, if_pos ha]
    · rw [if_neg ha, if_neg ha, codesF_app l (n + 1), List.length_cons, show n + 1 + l.length = n + (l.length + 1) by omega]
theorem checkF_more {p : PProg} {x : PFunc} (h0 : 1 ≤ p.funcs.length) (h1 : p.funcs.length < 32) (he : (checkF p).1 ≠ 13) (hx : ∀ nt, headF nt x false = 0) :
    checkF (plusX p x) = if (checkF p).1 ≠ 0 then checkF p else codesF (plusX p x) [x] p.funcs.length := by
  have ht : typesF (plusX p x) = typesF p := by
    unfold typesF
    simp only [plusX, List.length_append, List.length_cons, List.length_nil]
    by_cases hc : 32 < p.types.length ∨ 32 < p.globals.length ∨ 32 < p.funcs.length ∨ p.funcs.length < 1
    · rw [if_pos hc, if_pos (by omega)]
    · rw [if_neg hc, if_neg (by omega)]
      rfl
  unfold checkF at he ⊢
  rw [ht]
  by_cases h2 : (typesF p).1 ≠ 0
  · simp only [if_pos h2]
  · simp only [if_neg h2] at he ⊢
    have hh : headsF (plusX p x).types.length (plusX p x).funcs 0 = headsF p.types.length p.funcs 0 := by
      show headsF p.types.length (p.funcs ++ [x]) 0 = _
      rw [headsF_app]
      by_cases h3 : (headsF p.types.length p.funcs 0).1 ≠ 0
      · rw [if_pos h3]
      · rw [if_neg h3]
        have e : headsF p.types.length [x] (0 + p.funcs.length) = (0, 0) := by
          unfold headsF
          rw [decide_eq_false (by omega), hx, if_neg (by simp)]; rfl
        rw [e]
        have hall : ∀ (l : List PFunc) (n : Nat), ¬ (headsF p.types.length l n).1 ≠ 0 → headsF p.types.length l n = (0, 0) := by
          intro l
          induction l with
          | nil => intro n _; rfl
          | cons a l ih =>
            intro n hn
            unfold headsF at hn ⊢
            by_cases ha : headF p.types.length a (decide (n = 0)) ≠ 0
            · rw [if_pos ha] at hn; exact absurd ha hn
            · rw [if_neg ha] at hn ⊢; exact ih _ hn
        exact (hall _ _ h3).symm
    rw [hh]
    by_cases h3 : (headsF p.types.length p.funcs 0).1 ≠ 0
    · simp only [if_pos h3]
    · simp only [if_neg h3] at he ⊢
      show codesF (plusX p x) (p.funcs ++ [x]) 0 = _
      rw [codesF_app, codesF_more he, Nat.zero_add]
theorem good_head (nt : Nat) : headF nt goodX false = 0 := by
  simp [headF, goodX, slotsBad, kindF, kind1, lastF, orB]
theorem bad_head (nt : Nat) : headF nt badX false = 0 := by
  simp [headF, badX, slotsBad, kindF, kind1, lastF, orB]
theorem good_codes (p : PProg) (n : Nat) : codesF p [goodX] n = (0, 0, 0) := by rfl
theorem bad_codes (p : PProg) (n : Nat) : codesF p [badX] n = (11, (n : Int), 1) := by rfl

end Go.Proofs.Ytofcnjglnnoimaa.Vf

namespace Go.Proofs.Ytofcnjglnnoimaa.Vf
open Go Go.AM Go.Proofs.Ytofcnjglnnoimaa.AmGW
attribute [local irreducible] AM.wp AM.wpIs AM.wpTr AM.opI AM.gI AM.cI AM.trI AM.callI AM.fnI AM.trG AM.trOp AM.trCall AM.seqC AM.loopI
set_option maxRecDepth 100000
set_option linter.unusedVariables false
set_option linter.unusedSimpArgs false

/-- Rows of cells. -/
abbrev Rw (m : Nat) := {row : List AVal // row.length = m ∧ row.all (·.cell) = true}
theorem SlR.rows {α : Type} {h : AHeap} {m : Nat} {R : α → List AVal → Prop} {v : AVal} {l : List α} (s : SlR h m R v l) (hc : ∀ a row, R a row → row.all (·.cell) = true) : ∃ rows : List (Rw m), SlIn h m (fun r => r.1) v rows ∧ rows.length = l.length ∧ ∀ (i : Nat) (a : α) (r : Rw m), l[i]? = some a → rows[i]? = some r → R a r.1 := by
  rcases s with ⟨rfl, rfl⟩ | ⟨id, off, rfl, rfl, e1, e2⟩ | ⟨id, g, off, vs, ro, rows, rfl, e1, e2, e0, e3, e4, e5, e6⟩
  · exact ⟨[], .inl (.inl ⟨rfl, rfl⟩), rfl, by simp⟩
  · exact ⟨[], .inr ⟨rfl, id, off, rfl, e1, e2⟩, rfl, by simp⟩
  · have hall : ∀ row, row ∈ rows → row.length = m ∧ row.all (·.cell) = true := fun row hr => by
      obtain ⟨i, hi⟩ := List.getElem?_of_mem hr
      have hil := (List.getElem?_eq_some_iff.1 hi).1
      have ha : l[i]? = some l[i] := List.getElem?_eq_getElem (by omega)
      exact ⟨e5 row hr, hc _ _ (e6 i _ row ha hi)⟩
    have hv : (rows.attach.map fun r => (⟨r.1, hall r.1 r.2⟩ : Rw m)).flatMap (fun r => r.1) = rows.flatten := by
      rw [List.flatMap_map]
      show rows.attach.flatMap (fun r => r.1) = _
      rw [List.flatMap_def, List.attach_map_subtype_val]
    refine ⟨rows.attach.map fun r => ⟨r.1, hall r.1 r.2⟩, .inl (.inr ⟨id, g, off, vs, ro, by simp [e4], e1, e2, by simpa [e4] using e0, ?_⟩), by simp [e4], fun i a r ha hr => ?_⟩
    · rw [hv, ← e3]; simp [e4]
    · rw [List.getElem?_map, Option.map_eq_some_iff] at hr
      obtain ⟨x, hx, rfl⟩ := hr
      refine e6 i a x.1 ha ?_
      have := congrArg (Option.map Subtype.val) hx
      rw [← List.getElem?_map, List.attach_map_subtype_val] at this
      exact this
theorem SlOf.toR {α : Type} {h : AHeap} {m : Nat} {R : α → List AVal → Prop} {v : AVal} {l : List α} {rows : List (Rw m)} {F : List Nat} (s : SlOf h m (fun r => r.1) v rows F) (hl : rows.length = l.length) (hR : ∀ (i : Nat) (a : α) (r : Rw m), l[i]? = some a → rows[i]? = some r → R a r.1) : SlR h m R v l := by
  rcases s with ⟨rfl, rfl, _⟩ | ⟨id, g, off, vs, rfl, e1, e2, e3, e4, _⟩
  · exact .inl ⟨rfl, List.eq_nil_of_length_eq_zero (by simpa using hl.symm)⟩
  · refine .inr (.inr ⟨id, g, off, vs, false, rows.map (·.1), by rw [hl], e1, e2, by rw [← hl]; omega, ?_, by simp [hl], fun row hr => ?_, fun i a row ha hr => ?_⟩)
    · rw [e4, List.take_of_length_le, List.flatMap_def]
      rw [← e4, List.length_drop, ← hl]; omega
    · obtain ⟨r, _, rfl⟩ := List.mem_map.1 hr
      exact r.2.1
    · rw [List.getElem?_map, Option.map_eq_some_iff] at hr
      obtain ⟨x, hx, rfl⟩ := hr
      exact hR i a x ha hx
theorem funcR_cells {h : AHeap} {f : PFunc} {row : List AVal} (r : FuncR h f row) : row.all (·.cell) = true := by
  obtain ⟨a, b, c, rfl, s1, s2, s3⟩ := r
  simp [SlIn.cellv s1, SlIn.cellv s2, SlR.cellv s3]
  rfl

set_option maxHeartbeats 4000000 in
theorem lawMore {h : AHeap} {p : PProg} {row : List AVal} (R : ProgR h p row) (ok : p.Ok) (hl : p.funcs.length < 1073741824) (bad : Bool) : CallP AP 6 [.agg row, .bool bad] h fun r h' => r = .bool true := by
  have R0 := R
  obtain ⟨tv, gv, fv, rfl, RT, RG, RF⟩ := R
  refine callP (rfl : Tr.get AP 6 = some A6) ?_
  generalize hQ : (fun (r : AVal) (h' : AHeap) => _) = Q
  have c1 := SlR.cellv RT
  have c2 := SlIn.cellv RG
  have c3 := SlR.cellv RF
  have l3 := RF.len
  simp -implicitDefEqProofs (disch := first | decide | assumption | omega | (simp -implicitDefEqProofs only [AM.RN]; first | done | omega) | fail) only [↓AM.R0, AM.R1, AM.R2, Nat.reduceAdd, Nat.reduceLeDiff, Nat.reduceEqDiff, Int.reduceToNat, Nat.reduceLT, ↓reduceIte, Int.reduceEq, Int.reduceLT, Int.reduceLE, c1, c2, c3]
  have f0 := (HFrame.refl (h := h) (F := []) (by simp)).pushTmp (.cells 0 false [tv, gv, fv])
  have gP : (h.push (.cells 0 false [tv, gv, fv])).get h.n = .cells 0 false [tv, gv, fv] := AHeap.get_push_same _ _
  have nA : (h.push (.cells 0 false [tv, gv, fv])).n = h.n + 1 := by simp
  generalize h.push (.cells 0 false [tv, gv, fv]) = hA at *
  refine AM.callI_of (check (R0.keep f0) ok) ?_
  rintro r h2 ⟨f2, rfl⟩
  have gP2 := (f2.get h.n (by omega) (by simp)).trans gP
  have n2 : h.n + 1 ≤ h2.n := by have := f2.n; omega
  have f02 := f0.trans f2
  simp -implicitDefEqProofs (disch := first | decide | assumption | omega | (simp -implicitDefEqProofs only [AM.RN]; first | done | omega) | fail) only [↓AM.R0, AM.R1, AM.R2, Nat.reduceAdd, Nat.reduceLeDiff, Nat.reduceEqDiff, Int.reduceToNat, Nat.reduceLT, ↓reduceIte, Int.reduceEq, Int.reduceLT, Int.reduceLE]
  have f03 := (f02.pushTmp (.cells 0 false [.int .i64 0, .int .i64 0, .int .i64 0])).setTmp (i := h2.n) f02.n (.cells 0 false [.int .i64 (checkF p).1, .int .i64 (checkF p).2.1, .int .i64 (checkF p).2.2])
  obtain ⟨hB, hhB⟩ : ∃ hB, hB = (h2.push (.cells 0 false [.int .i64 0, .int .i64 0, .int .i64 0])).set h2.n (.cells 0 false [.int .i64 (checkF p).1, .int .i64 (checkF p).2.1, .int .i64 (checkF p).2.2]) := ⟨_, rfl⟩
  have gF : hB.get h2.n = .cells 0 false [.int .i64 (checkF p).1, .int .i64 (checkF p).2.1, .int .i64 (checkF p).2.2] := by rw [hhB]; exact AHeap.get_set_same _ _ _
  have gP3 : hB.get h.n = .cells 0 false [tv, gv, fv] := by rw [hhB, AHeap.get_set_ne _ _ (by omega), AHeap.get_push_ne _ _ (by omega)]; exact gP2
  have n3 : hB.n = h2.n + 1 := by rw [hhB]; rfl
  rw [← hhB] at f03 ⊢
  clear hhB
  refine AM.callI_of (awake hB) ?_
  rintro r h4 ⟨f4, rfl⟩
  have gF4 := (f4.get h2.n (by omega) (by simp)).trans gF
  have gP4 := (f4.get h.n (by omega) (by simp)).trans gP3
  have n4 : h2.n + 1 ≤ h4.n := by have := f4.n; omega
  have f04 := f03.trans f4
  simp -implicitDefEqProofs (disch := first | decide | assumption | omega | (simp -implicitDefEqProofs only [AM.RN]; first | done | omega) | fail) only [AM.RGB, ↓AM.R0, AM.R1, AM.R2, Nat.reduceAdd, Nat.reduceLeDiff, Nat.reduceEqDiff, Int.reduceToNat, Nat.reduceLT, ↓reduceIte, Int.reduceEq, Int.reduceLT, Int.reduceLE, gP4, l3]
  refine AM.cI_bool (fun hb => ?_) (fun hb => ?_)
  · have hc : (checkF p).1 = 16 := by
      have : typesF p = (16, 0) := if_pos (by simp only [Bool.or_eq_true, decide_eq_true_eq] at hb; omega)
      rw [checkF, this]; rfl
    have d1 : decide ((checkF p).1 = 16) = true := decide_eq_true hc
    simp -implicitDefEqProofs (disch := first | decide | assumption | omega | (simp -implicitDefEqProofs only [AM.RN]; first | done | omega) | fail) only [↓AM.R0, AM.R1, AM.R2, Nat.reduceAdd, Nat.reduceLeDiff, Nat.reduceEqDiff, Int.reduceToNat, Nat.reduceLT, ↓reduceIte, Int.reduceEq, Int.reduceLT, Int.reduceLE, gF4, d1]
    subst hQ; rfl
  simp -implicitDefEqProofs (disch := first | decide | assumption | omega | (simp -implicitDefEqProofs only [AM.RN]; first | done | omega) | fail) only [AM.RGB, ↓AM.R0, AM.R1, AM.R2, Nat.reduceAdd, Nat.reduceLeDiff, Nat.reduceEqDiff, Int.reduceToNat, Nat.reduceLT, ↓reduceIte, Int.reduceEq, Int.reduceLT, Int.reduceLE, gF4]
  refine AM.cI_bool (fun hc => ?_) (fun hc => ?_)
  · simp -implicitDefEqProofs (disch := first | decide | assumption | omega | (simp -implicitDefEqProofs only [AM.RN]; first | done | omega) | fail) only [↓AM.R0, AM.R1, AM.R2, Nat.reduceAdd, Nat.reduceLeDiff, Nat.reduceEqDiff, Int.reduceToNat, Nat.reduceLT, ↓reduceIte, Int.reduceEq, Int.reduceLT, Int.reduceLE]
    subst hQ; rfl
  simp -implicitDefEqProofs (disch := first | decide | assumption | omega | (simp -implicitDefEqProofs only [AM.RN]; first | done | omega) | fail) only [↓AM.R0, AM.R1, AM.R2, Nat.reduceAdd, Nat.reduceLeDiff, Nat.reduceEqDiff, Int.reduceToNat, Nat.reduceLT, ↓reduceIte, Int.reduceEq, Int.reduceLT, Int.reduceLE, AM.a_buildSlice, List.range, List.range.loop, List.getD_cons_zero, List.getD_cons_succ, Nat.mod_one, Nat.reduceMod, Nat.reduceMul]
  have hn32 : p.funcs.length < 32 ∧ 1 ≤ p.funcs.length ∧ (checkF p).1 ≠ 13 := by
    simp only [Bool.or_eq_false_iff, decide_eq_false_iff_not] at hb hc
    exact ⟨by omega, by omega, hc.2⟩
  refine AM.cI_cut (fun e' h' => HFrame h h' [] [] ∧ h'.get h.n = .cells 0 false [tv, gv, fv] ∧ h'.get h2.n = .cells 0 false [.int .i64 (checkF p).1, .int .i64 (checkF p).2.1, .int .i64 (checkF p).2.2] ∧ h4.n + 3 ≤ h'.n ∧ e'.val 1 = .bool bad ∧ e'.val 2 = .ptr h.n 0 0 ∧ e'.val 5 = .ptr h2.n 0 0 ∧ e'.val 6 = .int .i64 p.funcs.length ∧ e'.val 7 = .ptr (h4.n + 1 + 1) 0 0 ∧
    ∃ sx cx, h'.get (h4.n + 1 + 1) = .cells 0 false [.int .i64 0, sx, .nils, cx] ∧ FuncR h' (if bad = true then badX else goodX) [.int .i64 0, sx, .nils, cx]) ?_ ?_
  · rintro e hX ⟨fX, gPX, gFX, nX, e1, e2, e5, e6, e7, sx, cx, gX, RX⟩
    have cX := funcR_cells RX
    simp only [List.all_cons, List.all_nil, Bool.and_true, Bool.and_eq_true] at cX
    obtain ⟨_, cX1, _, cX2⟩ := cX
    simp -implicitDefEqProofs (disch := first | decide | assumption | omega | (simp -implicitDefEqProofs only [AM.RN]; first | done | omega) | fail) only [↓AM.R0, AM.R1, AM.R2, Nat.reduceAdd, Nat.reduceLeDiff, Nat.reduceEqDiff, Int.reduceToNat, Nat.reduceLT, ↓reduceIte, Int.reduceEq, Int.reduceLT, Int.reduceLE, e1, e2, e5, e6, e7, gX, gPX, c1, c2, c3, cX1, cX2]
    obtain ⟨rows, SI, hlen, hrows⟩ := SlR.rows RF (fun a row q => funcR_cells q)
    have fR := HFrame.refl (h := hX) (F := []) (by simp)
    have fQ := (((fR.pushTmp (.cells 0 false [.nils, .nils, .nils])).setTmp (i := hX.n) (Nat.le_refl _) (.cells 0 false [tv, gv, fv])).setTmp (i := hX.n) (Nat.le_refl _) (.cells 0 false [tv, gv, .nils]))
    obtain ⟨hY, hhY⟩ : ∃ hY, hY = (((hX.push (.cells 0 false [.nils, .nils, .nils])).set hX.n (.cells 0 false [tv, gv, fv])).set hX.n (.cells 0 false [tv, gv, .nils])) := ⟨_, rfl⟩
    have gQ : hY.get hX.n = .cells 0 false [tv, gv, .nils] := by rw [hhY]; exact AHeap.get_set_same _ _ _
    have gXY : hY.get (h4.n + 1 + 1) = .cells 0 false [.int .i64 0, sx, .nils, cx] := by rw [hhY, AHeap.get_set_ne _ _ (by omega), AHeap.get_set_ne _ _ (by omega), AHeap.get_push_ne _ _ (by omega)]; exact gX
    have gFY : hY.get h2.n = .cells 0 false [.int .i64 (checkF p).1, .int .i64 (checkF p).2.1, .int .i64 (checkF p).2.2] := by rw [hhY, AHeap.get_set_ne _ _ (by omega), AHeap.get_set_ne _ _ (by omega), AHeap.get_push_ne _ _ (by omega)]; exact gFX
    have nY : hY.n = hX.n + 1 := by rw [hhY]; rfl
    have keepX : ∀ j, j < hX.n → hY.get j = hX.get j := fun j hj => by rw [hhY, AHeap.get_set_ne _ _ (by omega), AHeap.get_set_ne _ _ (by omega), AHeap.get_push_ne _ _ (by omega)]
    have RXY := RX.mono (h' := hY) (by omega) keepX
    rw [← hhY] at fQ ⊢
    clear hhY
    refine AM.opI_of (SlOf.appIn (SlOf.nil (enc := fun r : Rw 4 => r.1)) (SI.keep (fX.trans fQ)) (fun r => r.2.1) (fun r => r.2.2) (by simp only [List.length_nil]; omega) fun v1 h5 F5 s5 f5 => ?_)
    rw [List.nil_append] at s5
    have gQ5 := (f5.get hX.n (by omega) (by simp)).trans gQ
    have gX5 := (f5.get (h4.n + 1 + 1) (by omega) (by simp)).trans gXY
    have gF5 := (f5.get h2.n (by omega) (by simp)).trans gFY
    have n5 : hX.n + 1 ≤ h5.n := by have := f5.n; omega
    have cv1 := SlIn.cellv (.inl (SlOf.rd s5))
    have cw1 := (SlRd.cells (SlOf.rd s5)).1
    simp -implicitDefEqProofs (disch := first | decide | assumption | omega | (simp -implicitDefEqProofs only [AM.RN]; first | done | omega) | fail) only [↓AM.R0, AM.R1, AM.R2, Nat.reduceAdd, Nat.reduceLeDiff, Nat.reduceEqDiff, Int.reduceToNat, Nat.reduceLT, ↓reduceIte, Int.reduceEq, Int.reduceLT, Int.reduceLE, gQ5, gX5, e1, e2, e5, e6, e7, c1, c2, cX1, cX2, cv1, cw1, AM.a_buildSlice, List.range, List.range.loop, List.getD_cons_zero, List.getD_cons_succ, Nat.reduceMod, Nat.reduceMul]
    have hXF : hX.n ∉ F5 := fun hm => by
      rcases f5.new _ hm with q | q
      · cases q
      · omega
    have s5' : SlOf (h5.set hX.n (.cells 0 false [tv, gv, v1])) 4 (fun r : Rw 4 => r.1) v1 rows F5 := SlOf.frame s5 (by simp) fun j hj => AHeap.get_set_ne _ _ (by intro e; subst e; exact hXF hj)
    have fZ := (fQ.trans f5).setTmp (i := hX.n) (Nat.le_refl _) (.cells 0 false [tv, gv, v1])
    refine AM.opI_of (SlOf.app1 s5' (fun r => r.2.1) (fun r => r.2.2) (by omega) (⟨[.int .i64 0, sx, .nils, cx], rfl, funcR_cells RX⟩ : Rw 4) fun v2 h6 F6 s6 f6 => ?_)
    have hXF5 : hX.n < (h5.set hX.n (.cells 0 false [tv, gv, v1])).n := by simp; omega
    have gQ6 := (f6.get hX.n hXF5 hXF).trans (AHeap.get_set_same _ _ _)
    have gF6 := (f6.get h2.n (by simp; omega) (fun hm => by
      rcases f5.new _ hm with q | q
      · cases q
      · omega)).trans ((AHeap.get_set_ne _ _ (by omega)).trans gF5)
    have n6 : hX.n < h6.n := by have := f6.n; omega
    have hXF6 : hX.n ∉ F6 := fun hm => by
      rcases f6.new _ hm with q | q
      · exact hXF q
      · simp at q; omega
    have cv2 := SlIn.cellv (.inl (SlOf.rd s6))
    have cw2 := (SlRd.cells (SlOf.rd s6)).1
    simp -implicitDefEqProofs (disch := first | decide | assumption | omega | (simp -implicitDefEqProofs only [AM.RN]; first | done | omega) | fail) only [↓AM.R0, AM.R1, AM.R2, Nat.reduceAdd, Nat.reduceLeDiff, Nat.reduceEqDiff, Int.reduceToNat, Nat.reduceLT, ↓reduceIte, Int.reduceEq, Int.reduceLT, Int.reduceLE, gQ6, gF6, e1, e2, e5, e6, e7, c1, c2, cv2, cw2]
    have s7 : SlOf (h6.set hX.n (.cells 0 false [tv, gv, v2])) 4 (fun r : Rw 4 => r.1) v2 (rows ++ [⟨[.int .i64 0, sx, .nils, cx], rfl, funcR_cells RX⟩]) F6 := SlOf.frame s6 (by simp) fun j hj => AHeap.get_set_ne _ _ (by intro e; subst e; exact hXF6 hj)
    have f7 := (HFrame.non (fZ.trans f6)).setTmp (i := hX.n) (Nat.le_refl _) (.cells 0 false [tv, gv, v2])
    have fh7 := fX.trans f7
    have gF7 : (h6.set hX.n (.cells 0 false [tv, gv, v2])).get h2.n = _ := (AHeap.get_set_ne _ _ (by omega)).trans gF6
    have n7 : hX.n < (h6.set hX.n (.cells 0 false [tv, gv, v2])).n := by simp; omega
    generalize h6.set hX.n (.cells 0 false [tv, gv, v2]) = h7 at *
    have k7 : ∀ j, j < h.n → h7.get j = h.get j := fun j hj => fh7.get j hj (by simp)
    have PQ : ProgR h7 (plusX p (if bad = true then badX else goodX)) [tv, gv, v2] := by
      refine ⟨tv, gv, v2, rfl, RT.mono (fun _ _ q => TypeR.mono fh7.n k7 q) fh7.n k7, RG.mono fh7.n k7, SlOf.toR s7 (by simp [plusX, hlen]) fun i a r ha hr => ?_⟩
      rcases Nat.lt_or_ge i p.funcs.length with hi | hi
      · simp only [plusX] at ha
        rw [List.getElem?_append_left hi] at ha
        rw [List.getElem?_append_left (by omega)] at hr
        exact FuncR.mono fh7.n k7 (hrows i a r ha hr)
      · simp only [plusX] at ha
        rw [List.getElem?_append_right hi] at ha
        rw [List.getElem?_append_right (by omega), hlen] at hr
        have h0 : i - p.funcs.length = 0 := by
          rcases Nat.eq_zero_or_pos (i - p.funcs.length) with q | q
          · exact q
          · rw [List.getElem?_eq_none (by simp; omega)] at ha; cases ha
        rw [h0] at ha hr
        simp only [List.getElem?_cons_zero, Option.some.injEq] at ha hr
        subst ha hr
        exact FuncR.mono f7.n (fun j hj => f7.get j hj (by simp)) RX
    have okQ : (plusX p (if bad = true then badX else goodX)).Ok := by
      refine ⟨ok.types, ok.globals, fun f hf => ?_⟩
      rcases List.mem_append.1 hf with hf | hf
      · exact ok.funcs f hf
      · simp only [List.mem_cons, List.not_mem_nil, or_false] at hf
        subst hf
        cases bad
        · refine ⟨by decide, by decide, by decide, fun i hi => ?_⟩
          simp only [goodX, Bool.false_eq_true, if_false, List.mem_cons, List.not_mem_nil, or_false] at hi
          rcases hi with rfl | rfl <;> exact ⟨by decide, by decide, by decide, by decide, by decide, by simp⟩
        · refine ⟨by decide, by decide, by decide, fun i hi => ?_⟩
          simp only [badX, if_true, List.mem_cons, List.not_mem_nil, or_false] at hi
          rcases hi with rfl | rfl | rfl <;> exact ⟨by decide, by decide, by decide, by decide, by decide, by simp⟩
    refine AM.callI_of (check PQ okQ) ?_
    rintro r h8 ⟨f8, rfl⟩
    have gF8 := (f8.get h2.n (by omega) (by simp)).trans gF7
    have n8 : h2.n < h8.n := by have := f8.n; omega
    have hY := checkF_more (x := if bad = true then badX else goodX) hn32.2.1 hn32.1 hn32.2.2 (by cases bad <;> simp [good_head, bad_head])
    generalize checkF (plusX p (if bad = true then badX else goodX)) = Y at *
    have bi : ∀ a : Int, decide (a = a) = true := fun a => decide_eq_true rfl
    simp -implicitDefEqProofs (disch := first | decide | assumption | omega | (simp -implicitDefEqProofs only [AM.RN]; first | done | omega) | fail) only [↓AM.R0, AM.R1, AM.R2, Nat.reduceAdd, Nat.reduceLeDiff, Nat.reduceEqDiff, Int.reduceToNat, Nat.reduceLT, ↓reduceIte, Int.reduceEq, Int.reduceLT, Int.reduceLE, e1, e2, e5, e6, e7, gF8]
    refine AM.cI_bool (fun hd => ?_) (fun hd => ?_)
    · have hd' : (checkF p).1 ≠ 0 := by simpa using hd
      rw [if_pos hd'] at hY
      subst hY
      simp -implicitDefEqProofs (disch := first | decide | assumption | omega | (simp -implicitDefEqProofs only [AM.RN]; first | done | omega) | fail) only [↓AM.R0, AM.R1, AM.R2, Nat.reduceAdd, Nat.reduceLeDiff, Nat.reduceEqDiff, Int.reduceToNat, Nat.reduceLT, ↓reduceIte, Int.reduceEq, Int.reduceLT, Int.reduceLE, e1, e2, e5, e6, e7, gF8, bi]
      subst hQ; rfl
    · have hd' : ¬ (checkF p).1 ≠ 0 := by simpa using hd
      rw [if_neg hd'] at hY
      simp -implicitDefEqProofs (disch := first | decide | assumption | omega | (simp -implicitDefEqProofs only [AM.RN]; first | done | omega) | fail) only [↓AM.R0, AM.R1, AM.R2, Nat.reduceAdd, Nat.reduceLeDiff, Nat.reduceEqDiff, Int.reduceToNat, Nat.reduceLT, ↓reduceIte, Int.reduceEq, Int.reduceLT, Int.reduceLE, e1, e2, e5, e6, e7, gF8, bi]
      refine AM.cI_bool (fun hg => ?_) (fun hg => ?_)
      · subst hg
        rw [if_pos rfl, bad_codes] at hY
        subst hY
        simp -implicitDefEqProofs (disch := first | decide | assumption | omega | (simp -implicitDefEqProofs only [AM.RN]; first | done | omega) | fail) only [↓AM.R0, AM.R1, AM.R2, Nat.reduceAdd, Nat.reduceLeDiff, Nat.reduceEqDiff, Int.reduceToNat, Nat.reduceLT, ↓reduceIte, Int.reduceEq, Int.reduceLT, Int.reduceLE, e1, e2, e5, e6, e7, gF8, bi]
        subst hQ; rfl
      · subst hg
        rw [if_neg (by simp), good_codes] at hY
        subst hY
        simp -implicitDefEqProofs (disch := first | decide | assumption | omega | (simp -implicitDefEqProofs only [AM.RN]; first | done | omega) | fail) only [↓AM.R0, AM.R1, AM.R2, Nat.reduceAdd, Nat.reduceLeDiff, Nat.reduceEqDiff, Int.reduceToNat, Nat.reduceLT, ↓reduceIte, Int.reduceEq, Int.reduceLT, Int.reduceLE, e1, e2, e5, e6, e7, gF8, bi]
        subst hQ; rfl
  · refine AM.cI_bool (fun hd => ?_) (fun hd => ?_)
    · subst hd
      simp -implicitDefEqProofs (disch := first | decide | assumption | omega | (simp -implicitDefEqProofs only [AM.RN]; first | done | omega) | fail) only [↓AM.R0, AM.R1, AM.R2, Nat.reduceAdd, Nat.reduceLeDiff, Nat.reduceEqDiff, Int.reduceToNat, Nat.reduceLT, ↓reduceIte, Int.reduceEq, Int.reduceLT, Int.reduceLE, AM.a_buildSlice, List.range, List.range.loop, List.getD_cons_zero, List.getD_cons_succ, Nat.mod_one, Nat.reduceMod, Nat.reduceMul]
      obtain ⟨hX, hhX⟩ : ∃ hX, hX = ((((((h4.push (.cells 0 false [.int .i64 0])).push (.cells 0 false [.int .i64 1, .int .i64 0, .int .i64 0, .int .i64 0, .int .u64 5, .nils, .int .i64 36, .int .i64 0, .int .i64 0, .int .i64 0, .int .u64 0, .nils])).push (.cells 0 false [.int .i64 0, .nils, .nils, .nils])).set (h4.n + 1 + 1) (.cells 0 false [.int .i64 0, .sl h4.n 0 0 1 1, .nils, .sl (h4.n + 1) 0 0 2 6])).push (.cells 0 false [.int .i64 1, .int .i64 0, .int .i64 0, .int .i64 0, .int .u64 5, .nils, .int .i64 48, .int .i64 1, .int .i64 0, .int .i64 0, .int .u64 0, .nils, .int .i64 36, .int .i64 0, .int .i64 0, .int .i64 0, .int .u64 0, .nils])).set (h4.n + 1 + 1) (.cells 0 false [.int .i64 0, .sl h4.n 0 0 1 1, .nils, .sl (h4.n + 1 + 1 + 1) 0 0 3 6])) := ⟨_, rfl⟩
      have g0 : hX.get h4.n = .cells 0 false [.int .i64 0] := by rw [hhX]; simp -implicitDefEqProofs (disch := first | decide | assumption | omega | (simp -implicitDefEqProofs only [AM.RN]; first | done | omega) | fail) only [↓AM.R0, AM.R1, AM.R2, Nat.reduceAdd, Nat.reduceLeDiff, Nat.reduceEqDiff, Int.reduceToNat, Nat.reduceLT, ↓reduceIte, Int.reduceEq, Int.reduceLT, Int.reduceLE]
      have g1 : hX.get (h4.n + 1 + 1 + 1) = .cells 0 false [.int .i64 1, .int .i64 0, .int .i64 0, .int .i64 0, .int .u64 5, .nils, .int .i64 48, .int .i64 1, .int .i64 0, .int .i64 0, .int .u64 0, .nils, .int .i64 36, .int .i64 0, .int .i64 0, .int .i64 0, .int .u64 0, .nils] := by rw [hhX]; simp -implicitDefEqProofs (disch := first | decide | assumption | omega | (simp -implicitDefEqProofs only [AM.RN]; first | done | omega) | fail) only [↓AM.R0, AM.R1, AM.R2, Nat.reduceAdd, Nat.reduceLeDiff, Nat.reduceEqDiff, Int.reduceToNat, Nat.reduceLT, ↓reduceIte, Int.reduceEq, Int.reduceLT, Int.reduceLE]
      have nX : hX.n = h4.n + 4 := by rw [hhX]; rfl
      have fX : HFrame h hX [] [] := by rw [hhX]; exact (((((f04.pushTmp _).pushTmp _).pushTmp _).setTmp (by have := f04.n; omega) _).pushTmp _).setTmp (by have := f04.n; omega) _
      rw [← hhX]
      refine ⟨fX, gP4, gF4, by omega, _, _, rfl, _, _, _, rfl, litK (l := [0]) g0 (by omega) rfl, nilK, SlR.lit (esz := 6) (l := [(⟨1, 0, 0, 0, 5, []⟩ : PIns), ⟨48, 1, 0, 0, 0, []⟩, ⟨36, 0, 0, 0, 0, []⟩]) (rows := [[.int .i64 1, .int .i64 0, .int .i64 0, .int .i64 0, .int .u64 5, .nils], [.int .i64 48, .int .i64 1, .int .i64 0, .int .i64 0, .int .u64 0, .nils], [.int .i64 36, .int .i64 0, .int .i64 0, .int .i64 0, .int .u64 0, .nils]]) g1 (by omega) rfl (by simp) ?_⟩
      exact .cons (insNil (i := ⟨1, 0, 0, 0, 5, []⟩) (by decide) rfl) (.cons (insNil (i := ⟨48, 1, 0, 0, 0, []⟩) (by decide) rfl) (.cons (insNil (i := ⟨36, 0, 0, 0, 0, []⟩) (by decide) rfl) .nil))
    · subst hd
      simp -implicitDefEqProofs (disch := first | decide | assumption | omega | (simp -implicitDefEqProofs only [AM.RN]; first | done | omega) | fail) only [↓AM.R0, AM.R1, AM.R2, Nat.reduceAdd, Nat.reduceLeDiff, Nat.reduceEqDiff, Int.reduceToNat, Nat.reduceLT, ↓reduceIte, Int.reduceEq, Int.reduceLT, Int.reduceLE]
      obtain ⟨hX, hhX⟩ : ∃ hX, hX = ((((h4.push (.cells 0 false [.int .i64 0])).push (.cells 0 false [.int .i64 1, .int .i64 0, .int .i64 0, .int .i64 0, .int .u64 5, .nils, .int .i64 36, .int .i64 0, .int .i64 0, .int .i64 0, .int .u64 0, .nils])).push (.cells 0 false [.int .i64 0, .nils, .nils, .nils])).set (h4.n + 1 + 1) (.cells 0 false [.int .i64 0, .sl h4.n 0 0 1 1, .nils, .sl (h4.n + 1) 0 0 2 6])) := ⟨_, rfl⟩
      have g0 : hX.get h4.n = .cells 0 false [.int .i64 0] := by rw [hhX]; simp -implicitDefEqProofs (disch := first | decide | assumption | omega | (simp -implicitDefEqProofs only [AM.RN]; first | done | omega) | fail) only [↓AM.R0, AM.R1, AM.R2, Nat.reduceAdd, Nat.reduceLeDiff, Nat.reduceEqDiff, Int.reduceToNat, Nat.reduceLT, ↓reduceIte, Int.reduceEq, Int.reduceLT, Int.reduceLE]
      have g1 : hX.get (h4.n + 1) = .cells 0 false [.int .i64 1, .int .i64 0, .int .i64 0, .int .i64 0, .int .u64 5, .nils, .int .i64 36, .int .i64 0, .int .i64 0, .int .i64 0, .int .u64 0, .nils] := by rw [hhX]; simp -implicitDefEqProofs (disch := first | decide | assumption | omega | (simp -implicitDefEqProofs only [AM.RN]; first | done | omega) | fail) only [↓AM.R0, AM.R1, AM.R2, Nat.reduceAdd, Nat.reduceLeDiff, Nat.reduceEqDiff, Int.reduceToNat, Nat.reduceLT, ↓reduceIte, Int.reduceEq, Int.reduceLT, Int.reduceLE]
      have nX : hX.n = h4.n + 3 := by rw [hhX]; rfl
      have fX : HFrame h hX [] [] := by rw [hhX]; exact (((f04.pushTmp _).pushTmp _).pushTmp _).setTmp (by have := f04.n; omega) _
      rw [← hhX]
      refine ⟨fX, gP4, gF4, Nat.le_refl _, _, _, rfl, _, _, _, rfl, litK (l := [0]) g0 (by omega) rfl, nilK, SlR.lit (esz := 6) (l := [(⟨1, 0, 0, 0, 5, []⟩ : PIns), ⟨36, 0, 0, 0, 0, []⟩]) (rows := [[.int .i64 1, .int .i64 0, .int .i64 0, .int .i64 0, .int .u64 5, .nils], [.int .i64 36, .int .i64 0, .int .i64 0, .int .i64 0, .int .u64 0, .nils]]) g1 (by omega) rfl (by simp) ?_⟩
      exact .cons (insNil (i := ⟨1, 0, 0, 0, 5, []⟩) (by decide) rfl) (.cons (insNil (i := ⟨36, 0, 0, 0, 0, []⟩) (by decide) rfl) .nil)
theorem sP_funcs (p : PProg) : p.funcs.length ≤ sP p := by
  have e6 := len_sum sF (fun a => by unfold sF; omega) p.funcs
  unfold sP; omega
end Go.Proofs.Ytofcnjglnnoimaa.Vf

