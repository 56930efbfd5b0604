/-
  What the functions of this seat do, on the machine: lemmas for the laws.
-/
import Derived.Test.YtfagngiceofoeaaAmCK
import Derived.Test.YtfagngiceofoeaaAmCD1
namespace Go.Proofs.Ytfagngiceofoeaa.Cd
open Go Go.AM Go.Proofs.Ytfagngiceofoeaa.AmGC
attribute [local irreducible] AM.wp AM.wpIs AM.wpTr AM.opI AM.gI AM.cI AM.trI AM.callI AM.fnI AM.trG AM.trOp AM.trCall AM.seqC AM.loopI
set_option maxRecDepth 100000
set_option linter.unusedVariables false
set_option linter.unusedSimpArgs false

theorem two_of {vs : List AVal} {off : Nat} {a b : AVal} (e : (vs.drop off).take 2 = [a, b]) : vs[off]? = some a ∧ vs[off + 1]? = some b := by
  have h1 : ((vs.drop off).take 2)[0]? = some a := by rw [e]; rfl
  have h2 : ((vs.drop off).take 2)[1]? = some b := by rw [e]; rfl
  rw [List.getElem?_take, if_pos (by omega), List.getElem?_drop] at h1 h2
  exact ⟨h1, h2⟩

theorem sameKinds {h : AHeap} {v w : AVal} {l : List Int} (L : SlIn h 1 encK v l) (M : SlIn h 1 encK w l) (hl : l.length ≤ 9223372036854775807) : CallP AP 34 [v, w] h fun r h' => r = .bool true ∧ h' = h := by
  refine callP (rfl : Tr.get AP 34 = some A34) ?_
  generalize hQ : (fun (r : AVal) (h' : AHeap) => _) = Q
  have l1 := L.len
  have l2 := M.len
  simp -implicitDefEqProofs (disch := first | decide | assumption | omega | (simp -implicitDefEqProofs only [AM.RN]; first | done | omega) | fail) only [↓AM.R0, AM.R1, AM.R2, Nat.reduceAdd, Nat.reduceLeDiff, Nat.reduceEqDiff, Int.reduceToNat, Nat.reduceLT, ↓reduceIte, Int.reduceEq, Int.reduceLT, Int.reduceLE, l1, l2]
  refine AM.loopI_of (fun k e h' => ∃ i : Nat, k + i = l.length ∧ e.val 0 = v ∧ e.val 1 = w ∧ e.val 5 = .int .i64 i ∧ h' = h) l.length ?_ ?_
  · refine ⟨0, by omega, ?_, ?_, ?_, rfl⟩ <;> simp -implicitDefEqProofs (disch := first | decide | assumption | omega | (simp -implicitDefEqProofs only [AM.RN]; first | done | omega) | fail) only [↓AM.R0, AM.R1, AM.R2, Nat.reduceAdd, Nat.reduceLeDiff, Nat.reduceEqDiff, Int.reduceToNat, Nat.reduceLT, ↓reduceIte, Int.reduceEq, Int.reduceLT, Int.reduceLE] <;> rfl
  · rintro k e h' ⟨i, hk, e0, e1, e5, rfl⟩
    simp -implicitDefEqProofs (disch := first | decide | assumption | omega | (simp -implicitDefEqProofs only [AM.RN]; first | done | omega) | fail) only [↓AM.R0, AM.R1, AM.R2, Nat.reduceAdd, Nat.reduceLeDiff, Nat.reduceEqDiff, Int.reduceToNat, Nat.reduceLT, ↓reduceIte, Int.reduceEq, Int.reduceLT, Int.reduceLE, e0, e1, e5, l1, l2]
    refine AM.cI_bool (fun hb => ?_) (fun hb => ?_)
    · simp only [decide_eq_true_eq] at hb
      obtain ⟨a, ha⟩ : ∃ a, l[i]? = some a := ⟨_, List.getElem?_eq_getElem (by omega)⟩
      obtain ⟨j, g, off, vs, ro, x1, x2, x3, x5⟩ := (L.rd ha).ix1 (enc := fun n => .int .i64 n) ha .i64
      obtain ⟨j2, g2, off2, vs2, ro2, y1, y2, y3, y5⟩ := (M.rd ha).ix1 (enc := fun n => .int .i64 n) ha .i64
      have hw : IntKind.i64.wrap ((i : Int) + 1) = ((i + 1 : Nat) : Int) := wrap64 (by omega) (by omega)
      simp -implicitDefEqProofs (disch := first | decide | assumption | omega | (simp -implicitDefEqProofs only [AM.RN]; first | done | omega) | fail) only [↓AM.R0, AM.R1, AM.R2, Nat.reduceAdd, Nat.reduceLeDiff, Nat.reduceEqDiff, Int.reduceToNat, Nat.reduceLT, ↓reduceIte, Int.reduceEq, Int.reduceLT, Int.reduceLE, e0, e1, e5, x1, x2, x5, y1, y2, y5, hw]
      exact ⟨l.length - (i + 1), by omega, i + 1, by omega, rfl⟩
    · simp -implicitDefEqProofs (disch := first | decide | assumption | omega | (simp -implicitDefEqProofs only [AM.RN]; first | done | omega) | fail) only [↓AM.R0, AM.R1, AM.R2, Nat.reduceAdd, Nat.reduceLeDiff, Nat.reduceEqDiff, Int.reduceToNat, Nat.reduceLT, ↓reduceIte, Int.reduceEq, Int.reduceLT, Int.reduceLE]
      subst hQ
      exact ⟨rfl, rfl⟩

theorem sameIns {h : AHeap} {i : PIns} {row row2 : List AVal} (R : InsR h i row) (R2 : InsR h i row2) (hl : i.list.length ≤ 9223372036854775807) : CallP AP 35 [.agg row, .agg row2] h fun r h' => r = .bool true ∧ HFrame h h' [] [] := by
  obtain ⟨_, v, rfl, L⟩ := R
  obtain ⟨_, w, rfl, M⟩ := R2
  refine callP (rfl : Tr.get AP 35 = some A35) ?_
  generalize hQ : (fun (r : AVal) (h' : AHeap) => _) = Q
  have l1 := L.len
  have l2 := M.len
  have c1 := (SlIn.cells L).2
  have c2 := (SlIn.cells M).2
  have f0 := HFrame.refl (h := h) (F := []) (by simp)
  have f2 := (f0.pushTmp (.cells 0 false [.int .i64 i.op, .int .i64 i.a, .int .i64 i.b, .int .i64 i.c, .int .u64 i.imm, v])).pushTmp (.cells 0 false [.int .i64 i.op, .int .i64 i.a, .int .i64 i.b, .int .i64 i.c, .int .u64 i.imm, w])
  simp -implicitDefEqProofs (disch := first | decide | assumption | omega | (simp -implicitDefEqProofs only [AM.RN]; first | done | omega) | fail) only [↓AM.R0, AM.R1, AM.R2, Nat.reduceAdd, Nat.reduceLeDiff, Nat.reduceEqDiff, Int.reduceToNat, Nat.reduceLT, ↓reduceIte, Int.reduceEq, Int.reduceLT, Int.reduceLE, l1, l2, c1, c2]
  obtain ⟨hB, hBe⟩ : ∃ hB, hB = (h.push (.cells 0 false [.int .i64 i.op, .int .i64 i.a, .int .i64 i.b, .int .i64 i.c, .int .u64 i.imm, v])).push (.cells 0 false [.int .i64 i.op, .int .i64 i.a, .int .i64 i.b, .int .i64 i.c, .int .u64 i.imm, w]) := ⟨_, rfl⟩
  have g0 : hB.get h.n = .cells 0 false [.int .i64 i.op, .int .i64 i.a, .int .i64 i.b, .int .i64 i.c, .int .u64 i.imm, v] := by rw [hBe, AHeap.get_push_ne _ _ (by simp)]; exact AHeap.get_push_same _ _
  have g1 : hB.get (h.n + 1) = .cells 0 false [.int .i64 i.op, .int .i64 i.a, .int .i64 i.b, .int .i64 i.c, .int .u64 i.imm, w] := by rw [hBe]; exact AHeap.get_push_same _ _
  have nB : hB.n = h.n + 2 := by rw [hBe]; rfl
  rw [← hBe] at f2 ⊢
  have LB := L.keep f2
  have MB := M.keep f2
  refine AM.loopI_of (fun k e h' => ∃ x : Nat, k + x = i.list.length ∧ e.val 2 = .ptr h.n 0 0 ∧ e.val 3 = .ptr (h.n + 1) 0 0 ∧ e.val 5 = .int .i64 x ∧ h' = hB) i.list.length ?_ ?_
  · refine ⟨0, by omega, ?_, ?_, ?_, rfl⟩ <;> simp -implicitDefEqProofs (disch := first | decide | assumption | omega | (simp -implicitDefEqProofs only [AM.RN]; first | done | omega) | fail) only [↓AM.R0, AM.R1, AM.R2, Nat.reduceAdd, Nat.reduceLeDiff, Nat.reduceEqDiff, Int.reduceToNat, Nat.reduceLT, ↓reduceIte, Int.reduceEq, Int.reduceLT, Int.reduceLE] <;> rfl
  · rintro k e h' ⟨x, hk, e2, e3, e5, rfl⟩
    simp -implicitDefEqProofs (disch := first | decide | assumption | omega | (simp -implicitDefEqProofs only [AM.RN]; first | done | omega) | fail) only [↓AM.R0, AM.R1, AM.R2, Nat.reduceAdd, Nat.reduceLeDiff, Nat.reduceEqDiff, Int.reduceToNat, Nat.reduceLT, ↓reduceIte, Int.reduceEq, Int.reduceLT, Int.reduceLE, e2, e3, e5, l1, l2, g0, g1]
    refine AM.cI_bool (fun hb => ?_) (fun hb => ?_)
    · simp only [decide_eq_true_eq] at hb
      obtain ⟨a, ha⟩ : ∃ a, i.list[x]? = some a := ⟨_, List.getElem?_eq_getElem (by omega)⟩
      obtain ⟨j, g, off, vs, ro, x1, x2, x3, x5⟩ := (LB.rd ha).ix1 (enc := fun n => .int .i64 n) ha .i64
      obtain ⟨j2, g2, off2, vs2, ro2, y1, y2, y3, y5⟩ := (MB.rd ha).ix1 (enc := fun n => .int .i64 n) ha .i64
      have hw : IntKind.i64.wrap ((x : Int) + 1) = ((x + 1 : Nat) : Int) := wrap64 (by omega) (by omega)
      simp -implicitDefEqProofs (disch := first | decide | assumption | omega | (simp -implicitDefEqProofs only [AM.RN]; first | done | omega) | fail) only [↓AM.R0, AM.R1, AM.R2, Nat.reduceAdd, Nat.reduceLeDiff, Nat.reduceEqDiff, Int.reduceToNat, Nat.reduceLT, ↓reduceIte, Int.reduceEq, Int.reduceLT, Int.reduceLE, e2, e3, e5, g0, g1, x1, x2, x5, y1, y2, y5, hw]
      exact ⟨i.list.length - (x + 1), by omega, x + 1, by omega, rfl⟩
    · simp -implicitDefEqProofs (disch := first | decide | assumption | omega | (simp -implicitDefEqProofs only [AM.RN]; first | done | omega) | fail) only [↓AM.R0, AM.R1, AM.R2, Nat.reduceAdd, Nat.reduceLeDiff, Nat.reduceEqDiff, Int.reduceToNat, Nat.reduceLT, ↓reduceIte, Int.reduceEq, Int.reduceLT, Int.reduceLE]
      subst hQ
      exact ⟨rfl, f2⟩

theorem SlIn.beqv {h : AHeap} {esz : Nat} {α : Type} {enc : α → List AVal} {v : AVal} {l : List α} (s : SlIn h esz enc v l) : v.beq v = true := by
  rcases s with s | ⟨_, _, _, rfl, _⟩
  · exact s.beq
  · exact AM.beq_sl _ _ _ _ _
theorem SlR.beqv {h : AHeap} {esz : Nat} {α : Type} {R : α → List AVal → Prop} {v : AVal} {l : List α} (s : SlR h esz R v l) : v.beq v = true := by
  rcases s with ⟨rfl, _⟩ | ⟨_, _, rfl, _⟩ | ⟨_, _, _, _, _, _, rfl, _⟩
  · rfl
  · exact AM.beq_sl _ _ _ _ _
  · exact AM.beq_sl _ _ _ _ _
theorem SlR.atv {h : AHeap} {esz : Nat} {α : Type} {R : α → List AVal → Prop} {v : AVal} {l : List α} (s : SlR h esz R v l) {i : Nat} {a : α} (hi : l[i]? = some a) :
    ∃ id g off vs ro row, v = .sl id g off l.length esz ∧ h.get id = .cells g ro vs ∧ id < h.n ∧ off + i * esz + esz ≤ vs.length ∧ (vs.drop (off + i * esz)).take esz = row ∧ row.length = esz ∧ R a row := by
  have hlt : i < l.length := (List.getElem?_eq_some_iff.1 hi).1
  obtain ⟨id, g, off, vs, ro, row, e1, e2, e3, e4, e5, e6, e7⟩ := s.ix hi .i64
  rcases s with ⟨_, rfl⟩ | ⟨id', off', _, rfl, _⟩ | ⟨id', g', off', vs', ro', rows, rfl, a1, a2, _⟩
  · simp at hi
  · simp at hi
  · rw [AM.ix_sl h a1 (Int.natCast_nonneg _) (by omega)] at e1
    simp only [Option.some.injEq, Prod.mk.injEq, AVal.ptr.injEq, and_true, Int.toNat_natCast] at e1
    obtain ⟨rfl, rfl, rfl⟩ := e1
    rw [a1] at e2
    simp only [AObj.cells.injEq, true_and] at e2
    obtain ⟨rfl, rfl⟩ := e2
    exact ⟨_, _, off', _, _, row, rfl, a1, a2, e4, e5, e6, e7⟩

def PIns.Sz (i : PIns) : Prop := i.list.length ≤ 9223372036854775807
def PFunc.Sz (f : PFunc) : Prop := f.slots.length ≤ 9223372036854775807 ∧ f.results.length ≤ 9223372036854775807 ∧ f.code.length ≤ 9223372036854775807 ∧ ∀ i, i ∈ f.code → i.Sz
def PProg.Sz (p : PProg) : Prop := p.types.length ≤ 9223372036854775807 ∧ p.globals.length ≤ 9223372036854775807 ∧ p.funcs.length ≤ 9223372036854775807 ∧ (∀ t, t ∈ p.types → t.2.length ≤ 9223372036854775807) ∧ ∀ f, f ∈ p.funcs → f.Sz

theorem HFrame.keepR {h h' : AHeap} (f : HFrame h h' [] []) : h.n ≤ h'.n ∧ ∀ j, j < h.n → h'.get j = h.get j := ⟨f.n, fun j hj => f.get j hj (by simp)⟩

set_option maxHeartbeats 2000000 in
theorem sameProg {h : AHeap} {p : PProg} {row row2 : List AVal} (R : ProgR h p row) (R2 : ProgR h p row2) (hz : p.Sz) : CallP AP 16 [.agg row, .agg row2] h fun r h' => r = .bool true ∧ HFrame h h' [] [] := by
  obtain ⟨tv, gv, fv, rfl, RT, RG, RF⟩ := R
  obtain ⟨tw, gw, fw, rfl, ST, SG, SF⟩ := R2
  obtain ⟨z1, z2, z3, z4, z5⟩ := hz
  refine callP (rfl : Tr.get AP 16 = some A16) ?_
  generalize hQ : (fun (r : AVal) (h' : AHeap) => _) = Q
  have c1 := SlR.cellv RT
  have c2 := SlIn.cellv RG
  have c3 := SlR.cellv RF
  have c4 := SlR.cellv ST
  have c5 := SlIn.cellv SG
  have c6 := SlR.cellv SF
  have l1 := RT.len
  have l3 := RF.len
  have l4 := ST.len
  have l6 := SF.len
  have f0 := HFrame.refl (h := h) (F := []) (by simp)
  have f2 := (f0.pushTmp (.cells 0 false [tv, gv, fv])).pushTmp (.cells 0 false [tw, gw, fw])
  simp -implicitDefEqProofs (disch := first | decide | assumption | omega | (simp -implicitDefEqProofs only [AM.RN]; first | done | omega) | fail) only [↓AM.R0, AM.R1, AM.R2, Nat.reduceAdd, Nat.reduceLeDiff, Nat.reduceEqDiff, Int.reduceToNat, Nat.reduceLT, ↓reduceIte, Int.reduceEq, Int.reduceLT, Int.reduceLE, c1, c2, c3, c4, c5, c6, l1, l3, l4, l6]
  obtain ⟨hB, hBe⟩ : ∃ hB, hB = (h.push (.cells 0 false [tv, gv, fv])).push (.cells 0 false [tw, gw, fw]) := ⟨_, rfl⟩
  have g0 : hB.get h.n = .cells 0 false [tv, gv, fv] := by rw [hBe, AHeap.get_push_ne _ _ (by simp)]; exact AHeap.get_push_same _ _
  have g1 : hB.get (h.n + 1) = .cells 0 false [tw, gw, fw] := by rw [hBe]; exact AHeap.get_push_same _ _
  have nB : hB.n = h.n + 2 := by rw [hBe]; rfl
  rw [← hBe] at f2 ⊢
  have k2 := HFrame.keepR f2
  have RTB := RT.mono (fun _ _ q => TypeR.mono k2.1 k2.2 q) k2.1 k2.2
  have STB := ST.mono (fun _ _ q => TypeR.mono k2.1 k2.2 q) k2.1 k2.2
  have RFB := RF.mono (fun _ _ q => FuncR.mono k2.1 k2.2 q) k2.1 k2.2
  have SFB := SF.mono (fun _ _ q => FuncR.mono k2.1 k2.2 q) k2.1 k2.2
  refine AM.callI_of (sameKinds (RG.keep f2) (SG.keep f2) z2) ?_
  rintro r h' ⟨rfl, rfl⟩
  simp -implicitDefEqProofs (disch := first | decide | assumption | omega | (simp -implicitDefEqProofs only [AM.RN]; first | done | omega) | fail) only [↓AM.R0, AM.R1, AM.R2, Nat.reduceAdd, Nat.reduceLeDiff, Nat.reduceEqDiff, Int.reduceToNat, Nat.reduceLT, ↓reduceIte, Int.reduceEq, Int.reduceLT, Int.reduceLE]
  refine AM.loopI_of (fun k e h2 => ∃ x : Nat, k + x = p.types.length ∧ e.val 2 = .ptr h.n 0 0 ∧ e.val 3 = .ptr (h.n + 1) 0 0 ∧ e.val 5 = .int .i64 x ∧ h2 = h') p.types.length ?_ ?_
  · refine ⟨0, by omega, ?_, ?_, ?_, rfl⟩ <;> simp -implicitDefEqProofs (disch := first | decide | assumption | omega | (simp -implicitDefEqProofs only [AM.RN]; first | done | omega) | fail) only [↓AM.R0, AM.R1, AM.R2, Nat.reduceAdd, Nat.reduceLeDiff, Nat.reduceEqDiff, Int.reduceToNat, Nat.reduceLT, ↓reduceIte, Int.reduceEq, Int.reduceLT, Int.reduceLE] <;> rfl
  · rintro k e h2 ⟨x, hk, e2, e3, e5, rfl⟩
    simp -implicitDefEqProofs (disch := first | decide | assumption | omega | (simp -implicitDefEqProofs only [AM.RN]; first | done | omega) | fail) only [↓AM.R0, AM.R1, AM.R2, Nat.reduceAdd, Nat.reduceLeDiff, Nat.reduceEqDiff, Int.reduceToNat, Nat.reduceLT, ↓reduceIte, Int.reduceEq, Int.reduceLT, Int.reduceLE, e2, e3, e5, l1, g0]
    refine AM.cI_bool (fun hb => ?_) (fun hb => ?_)
    · simp only [decide_eq_true_eq] at hb
      obtain ⟨a, ha⟩ : ∃ a, p.types[x]? = some a := ⟨_, List.getElem?_eq_getElem (by omega)⟩
      obtain ⟨j, g, off, vs, ro, row, x1, x2, x3, x4, x5, x6, fl, rfl, xl⟩ := RTB.ix ha .i64
      obtain ⟨j2, gg2, off2, vs2, ro2, row2, y1, y2, y3, y4, y5, y6, fl2, rfl, yl⟩ := STB.ix ha .i64
      have hw : IntKind.i64.wrap ((x : Int) + 1) = ((x + 1 : Nat) : Int) := wrap64 (by omega) (by omega)
      obtain ⟨p1, p2⟩ := two_of x5
      obtain ⟨q1, q2⟩ := two_of y5
      have hbb : (a.1 == a.1) = true := by cases a.1 <;> rfl
      simp -implicitDefEqProofs (disch := first | decide | assumption | omega | (simp -implicitDefEqProofs only [AM.RN]; first | done | omega) | fail) only [↓AM.R0, AM.R1, AM.R2, Nat.reduceAdd, Nat.reduceLeDiff, Nat.reduceEqDiff, Int.reduceToNat, Nat.reduceLT, ↓reduceIte, Int.reduceEq, Int.reduceLT, Int.reduceLE, e2, e3, e5, g0, g1, x1, x2, p1, p2, y1, y2, q1, q2, hbb]
      refine AM.trCall_of (sameKinds xl yl (z4 a (List.mem_of_getElem? ha))) ?_
      rintro r h3 ⟨rfl, rfl⟩
      simp -implicitDefEqProofs (disch := first | decide | assumption | omega | (simp -implicitDefEqProofs only [AM.RN]; first | done | omega) | fail) only [↓AM.R0, AM.R1, AM.R2, Nat.reduceAdd, Nat.reduceLeDiff, Nat.reduceEqDiff, Int.reduceToNat, Nat.reduceLT, ↓reduceIte, Int.reduceEq, Int.reduceLT, Int.reduceLE, e2, e3, e5, hw]
      exact ⟨p.types.length - (x + 1), by omega, x + 1, by omega, rfl⟩
    · have hx : x = p.types.length := by simp only [decide_eq_false_iff_not] at hb; omega
      clear hb
      simp -implicitDefEqProofs (disch := first | decide | assumption | omega | (simp -implicitDefEqProofs only [AM.RN]; first | done | omega) | fail) only [↓AM.R0, AM.R1, AM.R2, Nat.reduceAdd, Nat.reduceLeDiff, Nat.reduceEqDiff, Int.reduceToNat, Nat.reduceLT, ↓reduceIte, Int.reduceEq, Int.reduceLT, Int.reduceLE, e2, e3]
      clear e5
      refine AM.loopI_of (fun k e h3 => ∃ x : Nat, k + x = p.funcs.length ∧ e.val 2 = .ptr h.n 0 0 ∧ e.val 3 = .ptr (h.n + 1) 0 0 ∧ e.val 6 = .int .i64 x ∧ HFrame h2 h3 [] []) p.funcs.length ?_ ?_
      · refine ⟨0, by omega, ?_, ?_, ?_, HFrame.refl (by simp)⟩ <;> simp -implicitDefEqProofs (disch := first | decide | assumption | omega | (simp -implicitDefEqProofs only [AM.RN]; first | done | omega) | fail) only [↓AM.R0, AM.R1, AM.R2, Nat.reduceAdd, Nat.reduceLeDiff, Nat.reduceEqDiff, Int.reduceToNat, Nat.reduceLT, ↓reduceIte, Int.reduceEq, Int.reduceLT, Int.reduceLE, e2, e3] <;> rfl
      · clear e2 e3 hk hx e k x
        rintro k e h3 ⟨x, hk, e2, e3, e6, f⟩
        have G0 : h3.get h.n = _ := (f.get h.n (by omega) (by simp)).trans g0
        have G1 : h3.get (h.n + 1) = _ := (f.get (h.n + 1) (by omega) (by simp)).trans g1
        have n3 : h.n + 2 ≤ h3.n := by have := f.n; omega
        have k3 := HFrame.keepR f
        have RF3 := RFB.mono (fun _ _ q => FuncR.mono k3.1 k3.2 q) k3.1 k3.2
        have SF3 := SFB.mono (fun _ _ q => FuncR.mono k3.1 k3.2 q) k3.1 k3.2
        simp -implicitDefEqProofs (disch := first | decide | assumption | omega | (simp -implicitDefEqProofs only [AM.RN]; first | done | omega) | fail) only [↓AM.R0, AM.R1, AM.R2, Nat.reduceAdd, Nat.reduceLeDiff, Nat.reduceEqDiff, Int.reduceToNat, Nat.reduceLT, ↓reduceIte, Int.reduceEq, Int.reduceLT, Int.reduceLE, e2, e3, e6, l3, G0]
        refine AM.cI_bool (fun hb => ?_) (fun hb => ?_)
        · simp only [decide_eq_true_eq] at hb
          obtain ⟨a, ha⟩ : ∃ a, p.funcs[x]? = some a := ⟨_, List.getElem?_eq_getElem (by omega)⟩
          obtain ⟨zs, zr, zc, zi⟩ := z5 a (List.mem_of_getElem? ha)
          obtain ⟨j, g, off, vs, ro, row, x1, x2, x3, x4, x5, x6, sv, rv, cv, rfl, xs, xr, xc⟩ := SlR.atv RF3 ha
          obtain ⟨j2, gg2, off2, vs2, ro2, row2, y1, y2, y3, y4, y5, y6, sw, rw', cw, rfl, ys, yr, yc⟩ := SlR.atv SF3 ha
          have hw : IntKind.i64.wrap ((x : Int) + 1) = ((x + 1 : Nat) : Int) := wrap64 (by omega) (by omega)
          have d1 := SlIn.cellv xs
          have d2 := SlIn.cellv xr
          have d3 := SlR.cellv xc
          have d4 := SlIn.cellv ys
          have d5 := SlIn.cellv yr
          have d6 := SlR.cellv yc
          have b1 := SlIn.beqv xs
          have b2 := SlIn.beqv xr
          have b3 := SlR.beqv xc
          have b4 := SlIn.beqv ys
          have b5 := SlIn.beqv yr
          have b6 := SlR.beqv yc
          have lx := xc.len
          have ly := yc.len
          have jn1 : j ≠ h3.n := by omega
          have jn2 : j ≠ h3.n + 1 := by omega
          have jm1 : j2 ≠ h3.n := by omega
          have jm2 : j2 ≠ h3.n + 1 := by omega
          have bi : ∀ (k : IntKind) (n : Int), (AVal.int k n).beq (.int k n) = true := fun k n => by simp [AVal.beq]
          subst x1 y1
          simp -implicitDefEqProofs (disch := first | decide | assumption | omega | (simp -implicitDefEqProofs only [AM.RN]; first | done | omega) | fail) only [↓AM.R0, AM.R1, AM.R2, Nat.reduceAdd, Nat.reduceLeDiff, Nat.reduceEqDiff, Int.reduceToNat, Nat.reduceLT, ↓reduceIte, Int.reduceEq, Int.reduceLT, Int.reduceLE, e2, e3, e6, G0, G1, x2, x5, y2, y5, d1, d2, d3, d4, d5, d6, b1, b2, b3, b4, b5, b6, bi, AM.beq_sl, AM.beq_agg, AM.beqs_cons, AM.beqs_nil]
          obtain ⟨hC, hCe⟩ : ∃ hC, hC = (((h3.push (.cells 0 false [.int .i64 0, .nils, .nils, .nils])).push (.cells 0 false [.int .i64 0, .nils, .nils, .nils])).set h3.n (.cells 0 false [.int .i64 a.params, sv, rv, cv])).set (h3.n + 1) (.cells 0 false [.int .i64 a.params, sw, rw', cw]) := ⟨_, rfl⟩
          have fC : HFrame h3 hC [] [] := by
            rw [hCe]
            exact ((((HFrame.refl (by simp)).pushTmp _).pushTmp _).setTmp (Nat.le_refl _) _).setTmp (by omega) _
          have gc0 : hC.get h3.n = .cells 0 false [.int .i64 a.params, sv, rv, cv] := by rw [hCe, AHeap.get_set_ne _ _ (by omega)]; exact AHeap.get_set_same _ _ _
          have gc1 : hC.get (h3.n + 1) = .cells 0 false [.int .i64 a.params, sw, rw', cw] := by rw [hCe]; exact AHeap.get_set_same _ _ _
          have nC : hC.n = h3.n + 2 := by rw [hCe]; rfl
          rw [← hCe]
          have kC := HFrame.keepR fC
          have GC0 : hC.get h.n = _ := (fC.get h.n (by omega) (by simp)).trans G0
          have GC1 : hC.get (h.n + 1) = _ := (fC.get (h.n + 1) (by omega) (by simp)).trans G1
          refine AM.callI_of (sameKinds (xs.keep fC) (ys.keep fC) zs) ?_
          rintro r h4 ⟨rfl, rfl⟩
          simp -implicitDefEqProofs (disch := first | decide | assumption | omega | (simp -implicitDefEqProofs only [AM.RN]; first | done | omega) | fail) only [↓AM.R0, AM.R1, AM.R2, Nat.reduceAdd, Nat.reduceLeDiff, Nat.reduceEqDiff, Int.reduceToNat, Nat.reduceLT, ↓reduceIte, Int.reduceEq, Int.reduceLT, Int.reduceLE, gc0, gc1]
          refine AM.callI_of (sameKinds (xr.keep fC) (yr.keep fC) zr) ?_
          rintro r h5 ⟨rfl, rfl⟩
          simp -implicitDefEqProofs (disch := first | decide | assumption | omega | (simp -implicitDefEqProofs only [AM.RN]; first | done | omega) | fail) only [↓AM.R0, AM.R1, AM.R2, Nat.reduceAdd, Nat.reduceLeDiff, Nat.reduceEqDiff, Int.reduceToNat, Nat.reduceLT, ↓reduceIte, Int.reduceEq, Int.reduceLT, Int.reduceLE, gc0, gc1, lx, ly]
          refine AM.loopI_of (fun k e h6 => ∃ y : Nat, k + y = a.code.length ∧ e.val 2 = .ptr h.n 0 0 ∧ e.val 3 = .ptr (h.n + 1) 0 0 ∧ e.val 6 = .int .i64 x ∧ e.val 7 = .ptr h3.n 0 0 ∧ e.val 8 = .ptr (h3.n + 1) 0 0 ∧ e.val 9 = .int .i64 y ∧ HFrame h5 h6 [] []) a.code.length ?_ ?_
          · refine ⟨0, by omega, ?_, ?_, ?_, ?_, ?_, ?_, HFrame.refl (by simp)⟩ <;> simp -implicitDefEqProofs (disch := first | decide | assumption | omega | (simp -implicitDefEqProofs only [AM.RN]; first | done | omega) | fail) only [↓AM.R0, AM.R1, AM.R2, Nat.reduceAdd, Nat.reduceLeDiff, Nat.reduceEqDiff, Int.reduceToNat, Nat.reduceLT, ↓reduceIte, Int.reduceEq, Int.reduceLT, Int.reduceLE, e2, e3, e6] <;> rfl
          · clear e2 e3 e6 e
            rintro k2 e h6 ⟨y, hk2, e2, e3, e6, e7, e8, e9, f6⟩
            have G6 : h6.get h3.n = _ := (f6.get _ (by omega) (by simp)).trans gc0
            have G7 : h6.get (h3.n + 1) = _ := (f6.get _ (by omega) (by simp)).trans gc1
            have n6 := f6.n
            have k6 := HFrame.keepR (fC.trans f6)
            have xc6 := xc.mono (fun _ _ q => InsR.mono k6.1 k6.2 q) k6.1 k6.2
            have yc6 := yc.mono (fun _ _ q => InsR.mono k6.1 k6.2 q) k6.1 k6.2
            simp -implicitDefEqProofs (disch := first | decide | assumption | omega | (simp -implicitDefEqProofs only [AM.RN]; first | done | omega) | fail) only [↓AM.R0, AM.R1, AM.R2, Nat.reduceAdd, Nat.reduceLeDiff, Nat.reduceEqDiff, Int.reduceToNat, Nat.reduceLT, ↓reduceIte, Int.reduceEq, Int.reduceLT, Int.reduceLE, e2, e3, e6, e7, e8, e9, G6, G7, lx]
            refine AM.cI_bool (fun hb2 => ?_) (fun hb2 => ?_)
            · simp only [decide_eq_true_eq] at hb2
              obtain ⟨i, hi⟩ : ∃ i, a.code[y]? = some i := ⟨_, List.getElem?_eq_getElem (by omega)⟩
              obtain ⟨j3, g3, off3, vs3, ro3, row3, u1, u2, u3, u4, u5, u6, uR⟩ := SlR.atv xc6 hi
              obtain ⟨j4, g4, off4, vs4, ro4, row4, w1, w2, w3, w4, w5, w6, wR⟩ := SlR.atv yc6 hi
              have hw2 : IntKind.i64.wrap ((y : Int) + 1) = ((y + 1 : Nat) : Int) := wrap64 (by omega) (by omega)
              rw [u1] at G6
              rw [w1] at G7
              simp -implicitDefEqProofs (disch := first | decide | assumption | omega | (simp -implicitDefEqProofs only [AM.RN]; first | done | omega) | fail) only [↓AM.R0, AM.R1, AM.R2, Nat.reduceAdd, Nat.reduceLeDiff, Nat.reduceEqDiff, Int.reduceToNat, Nat.reduceLT, ↓reduceIte, Int.reduceEq, Int.reduceLT, Int.reduceLE, e2, e3, e6, e7, e8, e9, G6, G7, u2, u5, w2, w5]
              refine AM.trCall_of (sameIns uR wR (zi i (List.mem_of_getElem? hi))) ?_
              rintro r h7 ⟨rfl, f7⟩
              simp -implicitDefEqProofs (disch := first | decide | assumption | omega | (simp -implicitDefEqProofs only [AM.RN]; first | done | omega) | fail) only [↓AM.R0, AM.R1, AM.R2, Nat.reduceAdd, Nat.reduceLeDiff, Nat.reduceEqDiff, Int.reduceToNat, Nat.reduceLT, ↓reduceIte, Int.reduceEq, Int.reduceLT, Int.reduceLE, e2, e3, e6, e7, e8, e9, hw2]
              exact ⟨a.code.length - (y + 1), by omega, y + 1, by omega, rfl, f6.trans f7⟩
            · simp -implicitDefEqProofs (disch := first | decide | assumption | omega | (simp -implicitDefEqProofs only [AM.RN]; first | done | omega) | fail) only [↓AM.R0, AM.R1, AM.R2, Nat.reduceAdd, Nat.reduceLeDiff, Nat.reduceEqDiff, Int.reduceToNat, Nat.reduceLT, ↓reduceIte, Int.reduceEq, Int.reduceLT, Int.reduceLE, e2, e3, e6, hw]
              exact ⟨p.funcs.length - (x + 1), by omega, x + 1, by omega, rfl, f.trans (fC.trans f6)⟩
        · simp -implicitDefEqProofs (disch := first | decide | assumption | omega | (simp -implicitDefEqProofs only [AM.RN]; first | done | omega) | fail) only [↓AM.R0, AM.R1, AM.R2, Nat.reduceAdd, Nat.reduceLeDiff, Nat.reduceEqDiff, Int.reduceToNat, Nat.reduceLT, ↓reduceIte, Int.reduceEq, Int.reduceLT, Int.reduceLE]
          subst hQ
          exact ⟨rfl, f2.trans f⟩
end Go.Proofs.Ytfagngiceofoeaa.Cd

namespace Go.Proofs.Ytfagngiceofoeaa.Cd
open Go Go.AM Go.Proofs.Ytfagngiceofoeaa.AmGC
attribute [local irreducible] AM.wp AM.wpIs AM.wpTr AM.opI AM.gI AM.cI AM.trI AM.callI AM.fnI AM.trG AM.trOp AM.trCall AM.seqC AM.loopI
set_option maxRecDepth 100000
set_option linter.unusedVariables false
set_option linter.unusedSimpArgs false

def tB (t : Bool × List Int) : Nat := 20 + 10 * t.2.length
def iB (i : PIns) : Nat := 60 + 10 * i.list.length
def fB (f : PFunc) : Nat := 40 + 10 * f.slots.length + 10 * f.results.length + (f.code.map iB).sum
theorem RAt.nil {h : AHeap} {w : Nat} (g : h.get w = .cells 0 false [.nils, .int .i64 0]) (hw : w < h.n) : RAt h w ([], 0) 0 [w] := ⟨[], ⟨.nils, [], g, hw, SlOf.nil, by simp, rfl⟩, fun _ => rfl, by simp⟩
theorem RAt.wk {h : AHeap} {w : Nat} {s : WS} {B B' : Nat} {F : List Nat} (H : RAt h w s B F) (h1 : B ≤ B') : RAt h w s B' F := by
  obtain ⟨o, a, b, c⟩ := H; exact ⟨o, a, b, by omega⟩
theorem RAt.setN {h : AHeap} {w : Nat} {s : WS} {B : Nat} {F : List Nat} (H : RAt h w s B F) {i : Nat} (hi : i ∉ F) (o : AObj) : RAt (h.set i o) w s B F :=
  H.frame (by simp) fun j hj => AHeap.get_set_ne _ _ (by intro e; subst e; exact hi hj)

set_option maxHeartbeats 4000000 in
theorem refEncode {h : AHeap} {p : PProg} {row : List AVal} (R : ProgR h p row) (ok : p.Ok) (hsz : 10 * p.types.length + (p.types.map tB).sum + (p.funcs.map fB).sum + 10 * p.globals.length + 200 < 1073741824) :
    CallP AP 11 [.agg row] h fun r h' => ∃ ov Fo, HFrame h h' [] Fo ∧
      (if (wprog p).2 = 0 ∧ (wprog p).1.length ≤ 16384 then r = .tup [ov, .int .i64 0] ∧ SlOf h' 1 encB ov (wprog p).1 Fo
       else r = .tup [.nils, .int .i64 (if (wprog p).2 = 0 then 2 else (wprog p).2)]) := by
  obtain ⟨tv, gv, fv, rfl, RT, RG, RF⟩ := R
  refine callP (rfl : Tr.get AP 11 = some A11) ?_
  generalize hQ : (fun (r : AVal) (h' : AHeap) => _) = Q
  have c1 := SlR.cellv RT
  have c2 := SlIn.cellv RG
  have c3 := SlR.cellv RF
  have lT := RT.len
  have lF := RF.len
  simp -implicitDefEqProofs (disch := first | decide | assumption | omega | (simp -implicitDefEqProofs only [AM.RN]; first | done | omega) | fail) only [↓AM.R0, AM.R1, AM.R2, Nat.reduceAdd, Nat.reduceLeDiff, Nat.reduceEqDiff, Int.reduceToNat, Nat.reduceLT, ↓reduceIte, Int.reduceEq, Int.reduceLT, Int.reduceLE, c1, c2, c3]
  obtain ⟨h0, hh0⟩ : ∃ h0, h0 = h.push (.cells 0 false [tv, gv, fv]) := ⟨_, rfl⟩
  have hn0 : h0.n = h.n + 1 := by rw [hh0]; rfl
  have hm : ∀ j, j < h.n → h0.get j = h.get j := fun j hj => by rw [hh0]; exact AHeap.get_push_ne _ _ (by omega)
  have RT0 := RT.mono (fun _ _ q => TypeR.mono (by omega) hm q) (by omega) hm
  have RG0 := RG.mono (by omega : h.n ≤ h0.n) hm
  have RF0 := RF.mono (fun _ _ q => FuncR.mono (by omega) hm q) (by omega) hm
  have g0 : h0.get h.n = .cells 0 false [tv, gv, fv] := by rw [hh0]; exact AHeap.get_push_same _ _
  have fW : HFrame h0 (h0.push (.cells 0 false [.nils, .int .i64 0])) [] [h0.n] := ⟨by simp, rfl, fun j hj _ => AHeap.get_push_ne _ _ (by omega), fun j hj => .inr (by simp at hj; omega), fun j hj => by simp at hj; simp; omega⟩
  have HW : RAt (h0.push (.cells 0 false [.nils, .int .i64 0])) h0.n ([], 0) 0 [h0.n] := RAt.nil (AHeap.get_push_same _ _) (by simp)
  rw [← hh0, ← hn0]
  generalize h0.push (.cells 0 false [.nils, .int .i64 0]) = hW at *
  have gW := (fW.get h.n (by omega) (by simp)).trans g0
  have nW := fW.n
  simp -implicitDefEqProofs (disch := first | decide | assumption | omega | (simp -implicitDefEqProofs only [AM.RN]; first | done | omega) | fail) only [↓AM.R0, AM.R1, AM.R2, Nat.reduceAdd, Nat.reduceLeDiff, Nat.reduceEqDiff, Int.reduceToNat, Nat.reduceLT, ↓reduceIte, Int.reduceEq, Int.reduceLT, Int.reduceLE, gW, lT]
  have hTl : p.types.length ≤ (p.types.map tB).sum := len_sum tB (fun a => by unfold tB; omega) _
  have hFl : p.funcs.length ≤ (p.funcs.map fB).sum := len_sum fB (fun a => by unfold fB; omega) _
  refine AM.callI_of (refCount HW p.types.length 32 (by omega) (by omega) (by omega) (by omega)) ?_
  rintro r h1 ⟨F1, f1, q1⟩
  have f01 := fW.trans f1
  simp -implicitDefEqProofs (disch := first | decide | assumption | omega | (simp -implicitDefEqProofs only [AM.RN]; first | done | omega) | fail) only [↓AM.R0, AM.R1, AM.R2, Nat.reduceAdd, Nat.reduceLeDiff, Nat.reduceEqDiff, Int.reduceToNat, Nat.reduceLT, ↓reduceIte, Int.reduceEq, Int.reduceLT, Int.reduceLE]
  obtain ⟨W0, hW0⟩ : ∃ W0, W0 = wcount ([], 0) p.types.length 32 := ⟨_, rfl⟩
  rw [← hW0] at q1
  refine AM.loopI_of (fun k e h' => ∃ (i : Nat) (F' : List Nat), k + i = p.types.length ∧ e.val 1 = .ptr h.n 0 0 ∧ e.val 4 = .ptr h0.n 0 0 ∧ e.val 5 = .int .i64 i ∧ HFrame h0 h' [] F' ∧
    RAt h' h0.n ((p.types.take i).foldl wtype W0) (10 + ((p.types.take i).map tB).sum) F') p.types.length ?_ ?_
  · refine ⟨0, F1, by simp, ?_, ?_, ?_, f01, q1⟩ <;> simp -implicitDefEqProofs (disch := first | decide | assumption | omega | (simp -implicitDefEqProofs only [AM.RN]; first | done | omega) | fail) only [↓AM.R0, AM.R1, AM.R2, Nat.reduceAdd, Nat.reduceLeDiff, Nat.reduceEqDiff, Int.reduceToNat, Nat.reduceLT, ↓reduceIte, Int.reduceEq, Int.reduceLT, Int.reduceLE] <;> rfl
  · rintro k e h' ⟨i, F', hk, e1, e4, e5, f, q⟩
    have gp := (f.get h.n (by omega) (by simp)).trans g0
    have np := f.n
    have hst := sum_take tB p.types i
    simp -implicitDefEqProofs (disch := first | decide | assumption | omega | (simp -implicitDefEqProofs only [AM.RN]; first | done | omega) | fail) only [↓AM.R0, AM.R1, AM.R2, Nat.reduceAdd, Nat.reduceLeDiff, Nat.reduceEqDiff, Int.reduceToNat, Nat.reduceLT, ↓reduceIte, Int.reduceEq, Int.reduceLT, Int.reduceLE, e1, e4, e5, gp, lT]
    refine AM.cI_bool (fun hb => ?_) (fun hb => ?_)
    · simp only [decide_eq_true_eq] at hb
      obtain ⟨t, ht⟩ : ∃ t, p.types[i]? = some t := ⟨_, List.getElem?_eq_getElem (by omega)⟩
      have esum := sum_mem tB ht
      obtain ⟨j, g, off, vs, ro, row, x1, x2, x3, x4, x5, x6, fl, rfl, xl⟩ := SlR.atv RT0 ht
      obtain ⟨p1, p2⟩ := two_of x5
      have hw : IntKind.i64.wrap ((i : Int) + 1) = ((i + 1 : Nat) : Int) := wrap64 (by omega) (by omega)
      subst x1
      have xj := (f.get j x3 (by simp)).trans x2
      simp -implicitDefEqProofs (disch := first | decide | assumption | omega | (simp -implicitDefEqProofs only [AM.RN]; first | done | omega) | fail) only [↓AM.R0, AM.R1, AM.R2, Nat.reduceAdd, Nat.reduceLeDiff, Nat.reduceEqDiff, Int.reduceToNat, Nat.reduceLT, ↓reduceIte, Int.reduceEq, Int.reduceLT, Int.reduceLE, e1, e4, e5, gp, xj, p1]
      obtain ⟨b, ks⟩ := t
      have xl : SlIn h0 1 encK fl ks := xl
      have okt : ∀ x, x ∈ ks → x ≤ mx := ok.types (b, ks) (List.mem_of_getElem? ht)
      have etz : tB (b, ks) = 20 + 10 * ks.length := rfl
      cases b
      all_goals
        simp -implicitDefEqProofs (disch := first | decide | assumption | omega | (simp -implicitDefEqProofs only [AM.RN]; first | done | omega) | fail) only [↓AM.R0, AM.R1, AM.R2, Nat.reduceAdd, Nat.reduceLeDiff, Nat.reduceEqDiff, Int.reduceToNat, Nat.reduceLT, ↓reduceIte, Int.reduceEq, Int.reduceLT, Int.reduceLE, e1, e4, e5, gp]
        refine AM.callI_of (refNumber q _ (by omega) (by omega)) ?_
        rintro r h3 ⟨F3, f3, q3⟩
        have f03 := f.trans f3
        have gp3 := (f03.get h.n (by omega) (by simp)).trans g0
        have np3 := f03.n
        have xj3 := (f03.get j x3 (by simp)).trans x2
        simp -implicitDefEqProofs (disch := first | decide | assumption | omega | (simp -implicitDefEqProofs only [AM.RN]; first | done | omega) | fail) only [↓AM.R0, AM.R1, AM.R2, Nat.reduceAdd, Nat.reduceLeDiff, Nat.reduceEqDiff, Int.reduceToNat, Nat.reduceLT, ↓reduceIte, Int.reduceEq, Int.reduceLT, Int.reduceLE, e1, e4, e5, gp3, xj3, p2]
        refine AM.callI_of (refKinds (l := ks) f03 q3 xl okt 16 (by omega) (by omega)) ?_
        rintro r h4 ⟨F4, f4, q4⟩
        simp -implicitDefEqProofs (disch := first | decide | assumption | omega | (simp -implicitDefEqProofs only [AM.RN]; first | done | omega) | fail) only [↓AM.R0, AM.R1, AM.R2, Nat.reduceAdd, Nat.reduceLeDiff, Nat.reduceEqDiff, Int.reduceToNat, Nat.reduceLT, ↓reduceIte, Int.reduceEq, Int.reduceLT, Int.reduceLE, e1, e4, e5, hw]
        refine ⟨p.types.length - (i + 1), by omega, i + 1, F4, by omega, rfl, f4, ?_⟩
        rw [take_succ_of ht, List.foldl_append, List.map_append, List.sum_append]
        exact q4.wk (by simp; omega)
    · have hi : i = p.types.length := by simp only [decide_eq_false_iff_not] at hb; omega
      subst hi
      rw [List.take_length] at q
      clear hb hst
      simp -implicitDefEqProofs (disch := first | decide | assumption | omega | (simp -implicitDefEqProofs only [AM.RN]; first | done | omega) | fail) only [↓AM.R0, AM.R1, AM.R2, Nat.reduceAdd, Nat.reduceLeDiff, Nat.reduceEqDiff, Int.reduceToNat, Nat.reduceLT, ↓reduceIte, Int.reduceEq, Int.reduceLT, Int.reduceLE, e1, e4, gp]
      refine AM.callI_of (refKinds f q RG0 ok.globals 32 (by omega) (by omega)) ?_
      rintro r h2 ⟨F2, f2, q2⟩
      have gp2 := (f2.get h.n (by omega) (by simp)).trans g0
      have np2 := f2.n
      simp -implicitDefEqProofs (disch := first | decide | assumption | omega | (simp -implicitDefEqProofs only [AM.RN]; first | done | omega) | fail) only [↓AM.R0, AM.R1, AM.R2, Nat.reduceAdd, Nat.reduceLeDiff, Nat.reduceEqDiff, Int.reduceToNat, Nat.reduceLT, ↓reduceIte, Int.reduceEq, Int.reduceLT, Int.reduceLE, e1, e4, gp2, lF]
      refine AM.callI_of (refCount q2 p.funcs.length 32 (by omega) (by omega) (by omega) (by omega)) ?_
      rintro r h3 ⟨F3, f3, q3⟩
      have f03 := f2.trans f3
      simp -implicitDefEqProofs (disch := first | decide | assumption | omega | (simp -implicitDefEqProofs only [AM.RN]; first | done | omega) | fail) only [↓AM.R0, AM.R1, AM.R2, Nat.reduceAdd, Nat.reduceLeDiff, Nat.reduceEqDiff, Int.reduceToNat, Nat.reduceLT, ↓reduceIte, Int.reduceEq, Int.reduceLT, Int.reduceLE, e1, e4]
      obtain ⟨W3, hW3⟩ : ∃ W3, W3 = wcount (wkinds (p.types.foldl wtype W0) p.globals 32) p.funcs.length 32 := ⟨_, rfl⟩
      rw [← hW3] at q3
      have q3 := q3.wk (B' := 40 + (p.types.map tB).sum + 10 * p.globals.length) (by omega)
      refine AM.loopI_of (fun k e h' => ∃ (i : Nat) (F' : List Nat), k + i = p.funcs.length ∧ e.val 1 = .ptr h.n 0 0 ∧ e.val 4 = .ptr h0.n 0 0 ∧ e.val 6 = .int .i64 i ∧ HFrame h0 h' [] F' ∧
        RAt h' h0.n ((p.funcs.take i).foldl wfunc W3) (40 + (p.types.map tB).sum + 10 * p.globals.length + ((p.funcs.take i).map fB).sum) F') p.funcs.length ?_ ?_
      · refine ⟨0, F3, by simp, ?_, ?_, ?_, f03, q3⟩ <;> simp -implicitDefEqProofs (disch := first | decide | assumption | omega | (simp -implicitDefEqProofs only [AM.RN]; first | done | omega) | fail) only [↓AM.R0, AM.R1, AM.R2, Nat.reduceAdd, Nat.reduceLeDiff, Nat.reduceEqDiff, Int.reduceToNat, Nat.reduceLT, ↓reduceIte, Int.reduceEq, Int.reduceLT, Int.reduceLE, e1, e4] <;> rfl
      · clear e1 e4 e5 f q f2 q2 f3 q3 f03 gp gp2 np np2 hk e k
        rintro k e hq ⟨i, F', hk, e1, e4, e6, f, q⟩
        have gp := (f.get h.n (by omega) (by simp)).trans g0
        have np := f.n
        have hst := sum_take fB p.funcs i
        simp -implicitDefEqProofs (disch := first | decide | assumption | omega | (simp -implicitDefEqProofs only [AM.RN]; first | done | omega) | fail) only [↓AM.R0, AM.R1, AM.R2, Nat.reduceAdd, Nat.reduceLeDiff, Nat.reduceEqDiff, Int.reduceToNat, Nat.reduceLT, ↓reduceIte, Int.reduceEq, Int.reduceLT, Int.reduceLE, e1, e4, e6, gp, lF]
        refine AM.cI_bool (fun hb => ?_) (fun hb => ?_)
        · simp only [decide_eq_true_eq] at hb
          obtain ⟨t, ht⟩ : ∃ t, p.funcs[i]? = some t := ⟨_, List.getElem?_eq_getElem (by omega)⟩
          have esum := sum_mem fB ht
          obtain ⟨j, g, off, vs, ro, row, x1, x2, x3, x4, x5, x6, sv, rv, cv, rfl, ys, yr, yc⟩ := SlR.atv RF0 ht
          have k1 := SlIn.cellv ys
          have k2 := SlIn.cellv yr
          have k3 := SlR.cellv yc
          have lc := yc.len
          have hw : IntKind.i64.wrap ((i : Int) + 1) = ((i + 1 : Nat) : Int) := wrap64 (by omega) (by omega)
          have ez : fB t = 40 + 10 * t.slots.length + 10 * t.results.length + (t.code.map iB).sum := rfl
          have okt := ok.funcs t (List.mem_of_getElem? ht)
          have hcl := len_sum iB (fun a => by unfold iB; omega) t.code
          subst x1
          have xj := (f.get j x3 (by simp)).trans x2
          simp -implicitDefEqProofs (disch := first | decide | assumption | omega | (simp -implicitDefEqProofs only [AM.RN]; first | done | omega) | fail) only [↓AM.R0, AM.R1, AM.R2, Nat.reduceAdd, Nat.reduceLeDiff, Nat.reduceEqDiff, Int.reduceToNat, Nat.reduceLT, ↓reduceIte, Int.reduceEq, Int.reduceLT, Int.reduceLE, e1, e4, e6, gp, xj, x5, k1, k2, k3]
          obtain ⟨S, hS⟩ : ∃ S, S = (p.funcs.take i).foldl wfunc W3 := ⟨_, rfl⟩
          rw [← hS] at q
          have fA := (f.pushTmp (.cells 0 false [.int .i64 0, .nils, .nils, .nils])).setTmp (i := hq.n) np (.cells 0 false [.int .i64 t.params, sv, rv, cv])
          have hnF : hq.n ∉ F' := fun hm => Nat.lt_irrefl _ (q.lt _ hm)
          have qA := (q.tmp (.cells 0 false [.int .i64 0, .nils, .nils, .nils])).setN hnF (.cells 0 false [.int .i64 t.params, sv, rv, cv])
          have gA : ((hq.push (.cells 0 false [.int .i64 0, .nils, .nils, .nils])).set hq.n (.cells 0 false [.int .i64 t.params, sv, rv, cv])).get hq.n = .cells 0 false [.int .i64 t.params, sv, rv, cv] := AHeap.get_set_same _ _ _
          have nA : hq.n < ((hq.push (.cells 0 false [.int .i64 0, .nils, .nils, .nils])).set hq.n (.cells 0 false [.int .i64 t.params, sv, rv, cv])).n := by simp
          generalize (hq.push (.cells 0 false [.int .i64 0, .nils, .nils, .nils])).set hq.n (.cells 0 false [.int .i64 t.params, sv, rv, cv]) = hA at *
          refine AM.callI_of (refNumber qA t.params okt.params (by omega)) ?_
          rintro r h3 ⟨F3, f3, q3⟩
          obtain ⟨g3, n3⟩ := loc f3 gA nA hnF
          have hnF3 := f3.out hnF nA
          have fa3 := fA.trans f3
          simp -implicitDefEqProofs (disch := first | decide | assumption | omega | (simp -implicitDefEqProofs only [AM.RN]; first | done | omega) | fail) only [↓AM.R0, AM.R1, AM.R2, Nat.reduceAdd, Nat.reduceLeDiff, Nat.reduceEqDiff, Int.reduceToNat, Nat.reduceLT, ↓reduceIte, Int.reduceEq, Int.reduceLT, Int.reduceLE, e1, e4, e6, g3]
          have hAll := qA.lt
          have fAA : HFrame hA hA F' F' := HFrame.refl hAll
          have stay : ∀ {h'' : AHeap} {F'' : List Nat}, HFrame hA h'' F' F'' → h0.n ≤ h''.n ∧ ∀ j, j < h0.n → h''.get j = h0.get j := fun {h''} {F''} f'' => by
            have hn1 := fA.n
            refine ⟨Nat.le_trans hn1 f''.n, fun j hj => (f''.get j (by omega) fun hm => ?_).trans (fA.get j hj (by simp))⟩
            rcases f.new j hm with e | e
            · cases e
            · omega
          have fAh : ∀ {h'' : AHeap} {F'' : List Nat}, HFrame hA h'' F' F'' → HFrame h0 h'' [] F'' := fun f'' => fA.trans f''
          refine AM.callI_of (refKindsG f3 q3 (fun f'' => ys.mono (stay f'').1 (stay f'').2) okt.slots 32 (by omega) (by omega)) ?_
          rintro r h4 ⟨F4, f4, q4⟩
          obtain ⟨g4, n4⟩ := loc f4 gA nA hnF
          simp -implicitDefEqProofs (disch := first | decide | assumption | omega | (simp -implicitDefEqProofs only [AM.RN]; first | done | omega) | fail) only [↓AM.R0, AM.R1, AM.R2, Nat.reduceAdd, Nat.reduceLeDiff, Nat.reduceEqDiff, Int.reduceToNat, Nat.reduceLT, ↓reduceIte, Int.reduceEq, Int.reduceLT, Int.reduceLE, e1, e4, e6, g4]
          refine AM.callI_of (refKindsG f4 q4 (fun f'' => yr.mono (stay f'').1 (stay f'').2) okt.results 32 (by omega) (by omega)) ?_
          rintro r h5 ⟨F5, f5, q5⟩
          obtain ⟨g5, n5⟩ := loc f5 gA nA hnF
          simp -implicitDefEqProofs (disch := first | decide | assumption | omega | (simp -implicitDefEqProofs only [AM.RN]; first | done | omega) | fail) only [↓AM.R0, AM.R1, AM.R2, Nat.reduceAdd, Nat.reduceLeDiff, Nat.reduceEqDiff, Int.reduceToNat, Nat.reduceLT, ↓reduceIte, Int.reduceEq, Int.reduceLT, Int.reduceLE, e1, e4, e6, g5, lc]
          refine AM.callI_of (refCount q5 t.code.length 256 (by omega) (by omega) (by omega) (by omega)) ?_
          rintro r h6 ⟨F6, f6, q6⟩
          have f06 := f5.trans f6
          simp -implicitDefEqProofs (disch := first | decide | assumption | omega | (simp -implicitDefEqProofs only [AM.RN]; first | done | omega) | fail) only [↓AM.R0, AM.R1, AM.R2, Nat.reduceAdd, Nat.reduceLeDiff, Nat.reduceEqDiff, Int.reduceToNat, Nat.reduceLT, ↓reduceIte, Int.reduceEq, Int.reduceLT, Int.reduceLE, e1, e4, e6]
          have q6' : RAt h6 h0.n (hdf S t) (80 + (p.types.map tB).sum + 10 * p.globals.length + ((p.funcs.take i).map fB).sum + 10 * t.slots.length + 10 * t.results.length) F6 := q6.wk (by omega)
          refine AM.loopI_of (fun k e h' => ∃ (y : Nat) (F7 : List Nat), k + y = t.code.length ∧ e.val 1 = .ptr h.n 0 0 ∧ e.val 4 = .ptr h0.n 0 0 ∧ e.val 6 = .int .i64 i ∧ e.val 7 = .ptr hq.n 0 0 ∧ e.val 8 = .int .i64 y ∧ HFrame hA h' F' F7 ∧
            RAt h' h0.n ((t.code.take y).foldl winsP (hdf S t)) (80 + (p.types.map tB).sum + 10 * p.globals.length + ((p.funcs.take i).map fB).sum + 10 * t.slots.length + 10 * t.results.length + ((t.code.take y).map iB).sum) F7) t.code.length ?_ ?_
          · refine ⟨0, F6, by simp, ?_, ?_, ?_, ?_, ?_, f06, q6'⟩ <;> simp -implicitDefEqProofs (disch := first | decide | assumption | omega | (simp -implicitDefEqProofs only [AM.RN]; first | done | omega) | fail) only [↓AM.R0, AM.R1, AM.R2, Nat.reduceAdd, Nat.reduceLeDiff, Nat.reduceEqDiff, Int.reduceToNat, Nat.reduceLT, ↓reduceIte, Int.reduceEq, Int.reduceLT, Int.reduceLE, e1, e4, e6] <;> rfl
          · clear e1 e4 e6 e
            rintro k2 e h7 ⟨y, F7, hk2, e1, e4, e6, e7, e8, f7, q7⟩
            obtain ⟨g7, n7⟩ := loc f7 gA nA hnF
            have himt := okt.code
            simp -implicitDefEqProofs (disch := first | decide | assumption | omega | (simp -implicitDefEqProofs only [AM.RN]; first | done | omega) | fail) only [↓AM.R0, AM.R1, AM.R2, Nat.reduceAdd, Nat.reduceLeDiff, Nat.reduceEqDiff, Int.reduceToNat, Nat.reduceLT, ↓reduceIte, Int.reduceEq, Int.reduceLT, Int.reduceLE, e1, e4, e6, e7, e8, g7, lc]
            have hst2 := sum_take iB t.code y
            refine AM.cI_bool (fun hb2 => ?_) (fun hb2 => ?_)
            · simp only [decide_eq_true_eq] at hb2
              obtain ⟨z, hz⟩ : ∃ z, t.code[y]? = some z := ⟨_, List.getElem?_eq_getElem (by omega)⟩
              have esum2 := sum_mem iB hz
              obtain ⟨j3, g3', off3, vs3, ro3, row3, u1, u2, u3, u4, u5, u6, uR⟩ := SlR.atv yc hz
              have hw2 : IntKind.i64.wrap ((y : Int) + 1) = ((y + 1 : Nat) : Int) := wrap64 (by omega) (by omega)
              have ez2 : iB z = 60 + 10 * z.list.length := rfl
              rw [u1] at g7
              have uj := ((stay f7).2 j3 u3).trans u2
              have uj3 : j3 < h7.n := Nat.lt_of_lt_of_le u3 (stay f7).1
              simp -implicitDefEqProofs (disch := first | decide | assumption | omega | (simp -implicitDefEqProofs only [AM.RN]; first | done | omega) | fail) only [↓AM.R0, AM.R1, AM.R2, Nat.reduceAdd, Nat.reduceLeDiff, Nat.reduceEqDiff, Int.reduceToNat, Nat.reduceLT, ↓reduceIte, Int.reduceEq, Int.reduceLT, Int.reduceLE, e1, e4, e6, e7, e8, g7, uj, u5]
              refine AM.callI_of (refInsG f7 q7 (fun f'' => InsR.mono (stay f'').1 (stay f'').2 uR) (himt z (List.mem_of_getElem? hz)) (by omega)) ?_
              rintro r h8 ⟨F8, f8, q8⟩
              simp -implicitDefEqProofs (disch := first | decide | assumption | omega | (simp -implicitDefEqProofs only [AM.RN]; first | done | omega) | fail) only [↓AM.R0, AM.R1, AM.R2, Nat.reduceAdd, Nat.reduceLeDiff, Nat.reduceEqDiff, Int.reduceToNat, Nat.reduceLT, ↓reduceIte, Int.reduceEq, Int.reduceLT, Int.reduceLE, e1, e4, e6, e7, e8, hw2]
              refine ⟨t.code.length - (y + 1), by omega, y + 1, F8, by omega, rfl, f8, ?_⟩
              rw [take_succ_of hz, List.foldl_append, List.map_append, List.sum_append]
              exact q8.wk (by simp; omega)
            · have hy : y = t.code.length := by simp only [decide_eq_false_iff_not] at hb2; omega
              subst hy
              rw [List.take_length] at q7
              simp -implicitDefEqProofs (disch := first | decide | assumption | omega | (simp -implicitDefEqProofs only [AM.RN]; first | done | omega) | fail) only [↓AM.R0, AM.R1, AM.R2, Nat.reduceAdd, Nat.reduceLeDiff, Nat.reduceEqDiff, Int.reduceToNat, Nat.reduceLT, ↓reduceIte, Int.reduceEq, Int.reduceLT, Int.reduceLE, e1, e4, e6, hw]
              refine ⟨p.funcs.length - (i + 1), by omega, i + 1, F7, by omega, rfl, fAh f7, ?_⟩
              rw [take_succ_of ht, List.foldl_append, ← hS, List.map_append, List.sum_append]
              exact q7.wk (by simp; omega)
        · have hi : i = p.funcs.length := by simp only [decide_eq_false_iff_not] at hb; omega
          subst hi
          rw [List.take_length] at q
          have hP : p.funcs.foldl wfunc W3 = wprog p := by rw [hW3, hW0]; rfl
          rw [hP] at q
          have flt := q.lt
          obtain ⟨out, q, hout, hBl⟩ := q
          obtain ⟨ov, Fo, ho, hlt, hs, hwo, rfl⟩ := q
          have lo := hs.len
          clear hb hst
          simp -implicitDefEqProofs (disch := first | decide | assumption | omega | (simp -implicitDefEqProofs only [AM.RN]; first | done | omega) | fail) only [↓AM.R0, AM.R1, AM.R2, Nat.reduceAdd, Nat.reduceLeDiff, Nat.reduceEqDiff, Int.reduceToNat, Nat.reduceLT, ↓reduceIte, Int.reduceEq, Int.reduceLT, Int.reduceLE, e1, e4, ho, lo]
          have fh : ∀ G, (∀ j, j ∈ G → j ∈ Fo) → HFrame h hq [] G := fun G hG => ⟨by omega, by rw [f.g, hh0]; rfl, fun j hj _ => (f.get j (by omega) (by simp)).trans (hm j hj), fun j hj => by
              rcases f.new j (List.mem_cons_of_mem _ (hG j hj)) with e | e
              · cases e
              · exact .inr (by omega), fun j hj => flt j (List.mem_cons_of_mem _ (hG j hj))⟩
          refine AM.gI_bool (fun hc => ?_) (fun hc => ?_)
          · simp -implicitDefEqProofs (disch := first | decide | assumption | omega | (simp -implicitDefEqProofs only [AM.RN]; first | done | omega) | fail) only [↓AM.R0, AM.R1, AM.R2, Nat.reduceAdd, Nat.reduceLeDiff, Nat.reduceEqDiff, Int.reduceToNat, Nat.reduceLT, ↓reduceIte, Int.reduceEq, Int.reduceLT, Int.reduceLE, e4, ho, lo, hc]
            simp only [decide_eq_true_eq] at hc
            have hout := hout hc
            refine AM.cI_bool (fun hd => ?_) (fun hd => ?_)
            · simp only [decide_eq_true_eq] at hd
              simp -implicitDefEqProofs (disch := first | decide | assumption | omega | (simp -implicitDefEqProofs only [AM.RN]; first | done | omega) | fail) only [↓AM.R0, AM.R1, AM.R2, Nat.reduceAdd, Nat.reduceLeDiff, Nat.reduceEqDiff, Int.reduceToNat, Nat.reduceLT, ↓reduceIte, Int.reduceEq, Int.reduceLT, Int.reduceLE, e4, ho, hc]
              subst hQ
              refine ⟨.nils, [], (fh [] (by simp)).setTmp (by omega) _, ?_⟩
              rw [← hout, if_neg (by omega), if_pos hc]
            · simp only [decide_eq_false_iff_not] at hd
              simp -implicitDefEqProofs (disch := first | decide | assumption | omega | (simp -implicitDefEqProofs only [AM.RN]; first | done | omega) | fail) only [↓AM.R0, AM.R1, AM.R2, Nat.reduceAdd, Nat.reduceLeDiff, Nat.reduceEqDiff, Int.reduceToNat, Nat.reduceLT, ↓reduceIte, Int.reduceEq, Int.reduceLT, Int.reduceLE, e4, ho, hc]
              subst hQ
              refine ⟨ov, Fo, fh Fo (fun j h => h), ?_⟩
              rw [← hout, if_pos ⟨hc, by omega⟩]
              exact ⟨rfl, hs⟩
          · simp -implicitDefEqProofs (disch := first | decide | assumption | omega | (simp -implicitDefEqProofs only [AM.RN]; first | done | omega) | fail) only [↓AM.R0, AM.R1, AM.R2, Nat.reduceAdd, Nat.reduceLeDiff, Nat.reduceEqDiff, Int.reduceToNat, Nat.reduceLT, ↓reduceIte, Int.reduceEq, Int.reduceLT, Int.reduceLE, e4, ho, lo, hc]
            simp only [decide_eq_false_iff_not] at hc
            subst hQ
            refine ⟨.nils, [], fh [] (by simp), ?_⟩
            rw [if_neg (by intro h; exact hc h.1), if_neg hc]
end Go.Proofs.Ytfagngiceofoeaa.Cd

namespace Go.Proofs.Ytfagngiceofoeaa.Cd
open Go Go.AM Go.Proofs.Ytfagngiceofoeaa.AmGC
attribute [local irreducible] AM.wp AM.wpIs AM.wpTr AM.opI AM.gI AM.cI AM.trI AM.callI AM.fnI AM.trG AM.trOp AM.trCall AM.seqC AM.loopI
set_option maxRecDepth 100000
set_option linter.unusedVariables false
set_option linter.unusedSimpArgs false

theorem asBytes_map (l : List Int) : asBytes (l.map (AVal.int .u8)) = some (l.map fun n => n.toNat.toUInt8) := by
  induction l with
  | nil => rfl
  | cons a l ih => simp only [List.map_cons, asBytes, ih, Option.map_some]
theorem SlIn.b2s {h : AHeap} {v : AVal} {l : List Int} (s : SlIn h 1 encB v l) : b2sV h v = some (.str ⟨(l.map fun n => n.toNat.toUInt8).toArray⟩, h) := by
  rcases s with s | ⟨rfl, id, off, rfl, _⟩
  · rcases s with ⟨rfl, rfl⟩ | ⟨id, g, off, vs, ro, rfl, b, c, d, e⟩
    · rfl
    · by_cases h0 : l.length = 0
      · have : l = [] := List.eq_nil_of_length_eq_zero h0
        subst this
        rfl
      · have hfm : l.flatMap encB = l.map (AVal.int .u8) := by
          clear e d h0
          induction l with
          | nil => rfl
          | cons a l ih => simp only [List.flatMap_cons, List.map_cons, ih]; rfl
        have hrd : h.rd id g off l.length = some (l.map (AVal.int .u8)) := by
          simp only [AHeap.rd, b]
          rw [if_pos ⟨trivial, by omega⟩, ← hfm, ← e, Nat.mul_one]
        simp only [b2sV, if_neg h0, c, if_true, hrd, Option.bind_some, asBytes_map, Option.map_some]
  · rfl

theorem sameB {h : AHeap} {v w : AVal} {l : List Int} (L : SlIn h 1 encB v l) (M : SlIn h 1 encB w l) : CallP AP 13 [v, w] h fun r h' => r = .bool true ∧ h' = h := by
  refine callP (rfl : Tr.get AP 13 = some A13) ?_
  generalize hQ : (fun (r : AVal) (h' : AHeap) => _) = Q
  have l1 := SlIn.b2s L
  have l2 := SlIn.b2s M
  simp -implicitDefEqProofs (disch := first | decide | assumption | omega | (simp -implicitDefEqProofs only [AM.RN]; first | done | omega) | fail) only [↓AM.R0, AM.R1, AM.R2, Nat.reduceAdd, Nat.reduceLeDiff, Nat.reduceEqDiff, Int.reduceToNat, Nat.reduceLT, ↓reduceIte, Int.reduceEq, Int.reduceLT, Int.reduceLE, l1, l2, beq_self_eq_true]
  subst hQ
  exact ⟨rfl, rfl⟩

def smallP : PProg := ⟨[], [], [⟨0, [0], [], [⟨1, 0, 0, 0, 300, []⟩]⟩]⟩
theorem small (h : AHeap) : CallP AP 18 [] h fun r h' => r = .agg [.nils, .nils, .sl (h.n + 3) 0 0 1 4] ∧ HFrame h h' [] [] ∧ h'.n = h.n + 4 ∧ h'.get (h.n + 1) = .cells 0 false [.int .i64 0] ∧
    h'.get (h.n + 2) = .cells 0 false [.int .i64 1, .int .i64 0, .int .i64 0, .int .i64 0, .int .u64 300, .nils] ∧ h'.get (h.n + 3) = .cells 0 false [.int .i64 0, .sl (h.n + 1) 0 0 1 1, .nils, .sl (h.n + 2) 0 0 1 6] := by
  refine callP (rfl : Tr.get AP 18 = some A18) ?_
  generalize hQ : (fun (r : AVal) (h' : AHeap) => _) = Q
  have f0 := HFrame.refl (h := h) (F := []) (by simp)
  simp -implicitDefEqProofs (disch := first | decide | assumption | omega | (simp -implicitDefEqProofs only [AM.RN]; first | done | omega) | fail) only [↓AM.R0, AM.R1, AM.R2, Nat.reduceAdd, Nat.reduceLeDiff, Nat.reduceEqDiff, Int.reduceToNat, Nat.reduceLT, ↓reduceIte, Int.reduceEq, Int.reduceLT, Int.reduceLE]
  subst hQ
  refine ⟨rfl, ((((f0.pushTmp _).pushTmp _).pushTmp _).pushTmp _).setTmp (Nat.le_refl _) _, by simp, ?_, ?_, ?_⟩
  · rw [AHeap.get_set_ne _ _ (by omega), AHeap.get_push_ne _ _ (by simp), AHeap.get_push_ne _ _ (by simp)]; exact AHeap.get_push_same _ _
  · rw [AHeap.get_set_ne _ _ (by omega), AHeap.get_push_ne _ _ (by simp)]; exact AHeap.get_push_same _ _
  · rw [AHeap.get_set_ne _ _ (by omega)]; exact AHeap.get_push_same _ _
/-- A program of one function with one slot and one instruction, as 'small' lays it. -/
theorem smallR {h : AHeap} {b : Nat} {op a b' c : Int} {imm : Nat} (hn : b + 3 < h.n) (hi : imm ≤ 18446744073709551615) (g1 : h.get (b + 1) = .cells 0 false [.int .i64 0])
    (g2 : h.get (b + 2) = .cells 0 false [.int .i64 op, .int .i64 a, .int .i64 b', .int .i64 c, .int .u64 imm, .nils]) (g3 : h.get (b + 3) = .cells 0 false [.int .i64 0, .sl (b + 1) 0 0 1 1, .nils, .sl (b + 2) 0 0 1 6]) :
    ProgR h ⟨[], [], [⟨0, [0], [], [⟨op, a, b', c, imm, []⟩]⟩]⟩ [.nils, .nils, .sl (b + 3) 0 0 1 4] := by
  refine ⟨_, _, _, rfl, .inl ⟨rfl, rfl⟩, .inl (.inl ⟨rfl, rfl⟩), .inr (.inr ⟨b + 3, 0, 0, _, false, [[.int .i64 0, .sl (b + 1) 0 0 1 1, .nils, .sl (b + 2) 0 0 1 6]], rfl, g3, hn, by simp, rfl, rfl, by simp, ?_⟩)⟩
  intro i x row h1 h2
  cases i with
  | succ i => simp at h1
  | zero =>
    simp only [List.getElem?_cons_zero, Option.some.injEq] at h1 h2
    subst h1 h2
    refine ⟨_, _, _, rfl, .inl (.inr ⟨b + 1, 0, 0, _, false, rfl, g1, by omega, by simp, by simp⟩), .inl (.inl ⟨rfl, rfl⟩), .inr (.inr ⟨b + 2, 0, 0, _, false, [[.int .i64 op, .int .i64 a, .int .i64 b', .int .i64 c, .int .u64 imm, .nils]], rfl, g2, by omega, by simp, rfl, rfl, by simp, ?_⟩)⟩
    intro i x row h1 h2
    cases i with
    | succ i => simp at h1
    | zero =>
      simp only [List.getElem?_cons_zero, Option.some.injEq] at h1 h2
      subst h1 h2
      exact ⟨hi, .nils, rfl, .inl (.inl ⟨rfl, rfl⟩)⟩

theorem wordB_small {n : Nat} (h : n ≤ 127) : wordB n = [(n : Int)] := by rw [wordB, if_neg (by omega)]
theorem wprog_small : wprog smallP = ([0, 0, 1, 0, 1, 0, 0, 1, 1, 0, 0, 0, 172, 2, 0], 0) := by
  have w300 : wordB 300 = [172, 2] := by rw [wordB, if_pos (by decide), wordB_small (by decide)]; rfl
  have w0 : wordB 0 = [0] := wordB_small (by decide)
  have w1 : wordB 1 = [1] := wordB_small (by decide)
  have m0 : min (0 : Int) 65535 = 0 := rfl
  have m1 : min (1 : Int) 65535 = 1 := rfl
  simp [wprog, smallP, wfunc, wkinds, wcount, winsP, wins, wnum, wword, wfail, w300, w0, w1, m0, m1]
theorem pdec_small : pdec [0, 0, 1, 0, 1, 0, 0, 1, 1, 0, 0, 0, 172, 2, 0] = .ok smallP 15 := by rfl

theorem small_sz : smallP.Sz := by
  refine ⟨by decide, by decide, by decide, by simp [smallP], ?_⟩
  intro f hf
  simp only [smallP, List.mem_cons, List.not_mem_nil, or_false] at hf
  subst hf
  refine ⟨by decide, by decide, by decide, ?_⟩
  intro i hi
  simp only [List.mem_cons, List.not_mem_nil, or_false] at hi
  subst hi
  show (0 : Nat) ≤ _
  omega

theorem bytesOk (l : List Int) (h : ∀ b, b ∈ l → 0 ≤ b ∧ b ≤ 255) : ∀ b, b ∈ l → 0 ≤ b ∧ b ≤ 255 := h

theorem HFrame.non {h h' : AHeap} {A B : List Nat} (f : HFrame h h' A B) : HFrame h h' A [] := ⟨f.n, f.g, f.get, fun j hj => (nomatch hj), fun j hj => (nomatch hj)⟩

theorem awake (h : AHeap) : CallP AP 12 [] h fun r h' => r = .bool true ∧ HFrame h h' [] [] := by
  refine callP (rfl : Tr.get AP 12 = some A12) ?_
  generalize hQ : (fun (r : AVal) (h' : AHeap) => _) = Q
  simp -implicitDefEqProofs (disch := first | decide | assumption | omega | (simp -implicitDefEqProofs only [AM.RN]; first | done | omega) | fail) only [↓AM.R0, AM.R1, AM.R2, Nat.reduceAdd, Nat.reduceLeDiff, Nat.reduceEqDiff, Int.reduceToNat, Nat.reduceLT, ↓reduceIte, Int.reduceEq, Int.reduceLT, Int.reduceLE]
  refine AM.callI_of (small h) ?_
  rintro r h1 ⟨rfl, f1, n1, g1, g2, g3⟩
  have R1 := smallR (by omega) (by decide) g1 g2 g3
  simp -implicitDefEqProofs (disch := first | decide | assumption | omega | (simp -implicitDefEqProofs only [AM.RN]; first | done | omega) | fail) only [↓AM.R0, AM.R1, AM.R2, Nat.reduceAdd, Nat.reduceLeDiff, Nat.reduceEqDiff, Int.reduceToNat, Nat.reduceLT, ↓reduceIte, Int.reduceEq, Int.reduceLT, Int.reduceLE]
  refine AM.callI_of (encode R1 (by decide) (by simp)) ?_
  rintro r h2 ⟨ov, Fo, f2, q⟩
  have hw : wprog ⟨[], [], [⟨0, [0], [], [⟨1, 0, 0, 0, 300, []⟩]⟩]⟩ = ([0, 0, 1, 0, 1, 0, 0, 1, 1, 0, 0, 0, 172, 2, 0], 0) := wprog_small
  rw [hw, if_pos (by decide)] at q
  obtain ⟨rfl, s2⟩ := q
  have lo := s2.len
  simp -implicitDefEqProofs (disch := first | decide | assumption | omega | (simp -implicitDefEqProofs only [AM.RN]; first | done | omega) | fail) only [↓AM.R0, AM.R1, AM.R2, Nat.reduceAdd, Nat.reduceLeDiff, Nat.reduceEqDiff, Int.reduceToNat, Nat.reduceLT, ↓reduceIte, Int.reduceEq, Int.reduceLT, Int.reduceLE]
  refine AM.callI_of (decode (.inl s2.rd) (by decide) [] (by simp)) ?_
  rintro r h3 ⟨f3, row, rfl, hr1, hr2, hrow⟩
  rw [pdec_small] at hrow ⊢
  simp only [PR.err, PR.fn, PR.pl, PR.prog] at hrow ⊢
  have bi : ∀ (k : IntKind) (n : Int), (AVal.int k n).beq (.int k n) = true := fun k n => by simp [AVal.beq]
  have lo15 : ∀ h' : AHeap, lenV h' ov = some (.int .i64 15, h') := lo
  have hR3 : ProgR h3 smallP row := (ProgS.unmask hrow).r
  obtain ⟨tv, gv, fv, rfl, t1, t2, t3⟩ := hrow
  have b1 : tv.beq tv = true := by obtain ⟨_, q, _⟩ := t1; exact q.beq
  have b2 : gv.beq gv = true := t2.beq
  have b3 : fv.beq fv = true := by obtain ⟨_, q, _⟩ := t3; exact q.beq
  simp -implicitDefEqProofs (disch := first | decide | assumption | omega | (simp -implicitDefEqProofs only [AM.RN]; first | done | omega) | fail) only [↓AM.R0, AM.R1, AM.R2, Nat.reduceAdd, Nat.reduceLeDiff, Nat.reduceEqDiff, Int.reduceToNat, Nat.reduceLT, ↓reduceIte, Int.reduceEq, Int.reduceLT, Int.reduceLE, hr1, hr2, lo15, bi]
  obtain ⟨hD, hDe⟩ : ∃ hD, hD = (((h3.push (.cells 0 false [.nils, .nils, .nils])).push (.cells 0 false [.int .i64 0, .int .i64 0, .int .i64 0])).set h3.n (.cells 0 false [tv, gv, fv])).set (h3.n + 1) (.cells 0 false [.int .i64 0, .int .i64 0, .int .i64 ((0 : Nat) : Int)]) := ⟨_, rfl⟩
  have fD : HFrame h3 hD [] [] := by rw [hDe]; exact ((((HFrame.refl (by simp)).pushTmp _).pushTmp _).setTmp (Nat.le_refl _) _).setTmp (by omega) _
  have gD : hD.get h3.n = .cells 0 false [tv, gv, fv] := by rw [hDe, AHeap.get_set_ne _ _ (by omega)]; exact AHeap.get_set_same _ _ _
  have nD : hD.n = h3.n + 2 := by rw [hDe]; rfl
  rw [← hDe]
  have fx : ∀ {h' : AHeap}, HFrame h3 h' [] [] → HFrame h h' [] [] := fun g => (tmpF (n := h.n) (f1.trans (HFrame.non f2)) (f3.trans g) (Nat.le_refl _) (by have := f2.n; omega) (by simp)).1
  refine AM.trCall_of (small hD) ?_
  rintro r h4 ⟨rfl, f4, n4, k1, k2, k3⟩
  have g4 : h4.get h3.n = _ := (f4.get h3.n (by omega) (by simp)).trans gD
  have m4 : h3.n < h4.n := by omega
  simp -implicitDefEqProofs (disch := first | decide | assumption | omega | (simp -implicitDefEqProofs only [AM.RN]; first | done | omega) | fail) only [↓AM.R0, AM.R1, AM.R2, Nat.reduceAdd, Nat.reduceLeDiff, Nat.reduceEqDiff, Int.reduceToNat, Nat.reduceLT, ↓reduceIte, Int.reduceEq, Int.reduceLT, Int.reduceLE]
  have R4 := smallR (by omega) (by decide) k1 k2 k3
  have fk := fD.trans f4
  refine AM.trCall_of (sameProg (ProgR.mono fk.n (fun j hj => fk.get j hj (by simp)) hR3) R4 small_sz) ?_
  rintro r h5 ⟨rfl, f5⟩
  simp -implicitDefEqProofs (disch := first | decide | assumption | omega | (simp -implicitDefEqProofs only [AM.RN]; first | done | omega) | fail) only [↓AM.R0, AM.R1, AM.R2, Nat.reduceAdd, Nat.reduceLeDiff, Nat.reduceEqDiff, Int.reduceToNat, Nat.reduceLT, ↓reduceIte, Int.reduceEq, Int.reduceLT, Int.reduceLE, g4, bi, b1, b2, b3, AM.beq_agg, AM.beqs_cons, AM.beqs_nil]
  subst hQ
  exact ⟨rfl, fx (fk.trans f5)⟩
end Go.Proofs.Ytfagngiceofoeaa.Cd

namespace Go.Proofs.Ytfagngiceofoeaa.Cd
open Go Go.AM Go.Proofs.Ytfagngiceofoeaa.AmGC
attribute [local irreducible] AM.wp AM.wpIs AM.wpTr AM.opI AM.gI AM.cI AM.trI AM.callI AM.fnI AM.trG AM.trOp AM.trCall AM.seqC AM.loopI
set_option maxRecDepth 100000
set_option linter.unusedVariables false
set_option linter.unusedSimpArgs false

theorem ProgR.cellv {h : AHeap} {p : PProg} {row : List AVal} (R : ProgR h p row) : row.all (·.cell) = true ∧ row.length = 3 := by
  obtain ⟨a, b, c, rfl, s1, s2, s3⟩ := R
  have c1 := SlR.cellv s1
  have c2 := SlIn.cellv s2
  have c3 := SlR.cellv s3
  simp only [List.all_cons, c1, c2, c3, List.all_nil, Bool.and_self, List.length_cons, List.length_nil]
  trivial
theorem ProgR.keep {h h' : AHeap} {p : PProg} {row : List AVal} (R : ProgR h p row) {F : List Nat} (f : HFrame h h' [] F) : ProgR h' p row := ProgR.mono f.n (fun j hj => f.get j hj (by simp)) R

def wres (p : PProg) : Int := if (wprog p).2 = 0 ∧ (wprog p).1.length ≤ 16384 then 0 else if (wprog p).2 = 0 then 2 else (wprog p).2
def wout (p : PProg) : List Int := if (wprog p).2 = 0 ∧ (wprog p).1.length ≤ 16384 then (wprog p).1 else []
theorem encode' {h : AHeap} {p : PProg} {row : List AVal} (R : ProgR h p row) (hsz : pszT p + pszF p + 3 * p.globals.length + 200 < 1073741824) (himm : ∀ f, f ∈ p.funcs → ∀ i, i ∈ f.code → i.imm ≤ 18446744073709551615) :
    CallP AP 10 [.agg row] h fun r h' => ∃ ov Fo, HFrame h h' [] Fo ∧ r = .tup [ov, .int .i64 (wres p)] ∧ SlOf h' 1 encB ov (wout p) Fo := by
  refine (encode R hsz himm).mono ?_
  rintro r h' ⟨ov, Fo, f, q⟩
  unfold wres wout
  split at q
  · rename_i hc
    rw [if_pos hc, if_pos hc]
    exact ⟨ov, Fo, f, q.1, q.2⟩
  · rename_i hc
    rw [if_neg hc, if_neg hc]
    exact ⟨.nils, [], HFrame.non f, q, SlOf.nil⟩
theorem refEncode' {h : AHeap} {p : PProg} {row : List AVal} (R : ProgR h p row) (ok : p.Ok) (hsz : 10 * p.types.length + (p.types.map tB).sum + (p.funcs.map fB).sum + 10 * p.globals.length + 200 < 1073741824) :
    CallP AP 11 [.agg row] h fun r h' => ∃ ov Fo, HFrame h h' [] Fo ∧ r = .tup [ov, .int .i64 (wres p)] ∧ SlOf h' 1 encB ov (wout p) Fo := by
  refine (refEncode R ok hsz).mono ?_
  rintro r h' ⟨ov, Fo, f, q⟩
  unfold wres wout
  split at q
  · rename_i hc
    rw [if_pos hc, if_pos hc]
    exact ⟨ov, Fo, f, q.1, q.2⟩
  · rename_i hc
    rw [if_neg hc, if_neg hc]
    exact ⟨.nils, [], HFrame.non f, q, SlOf.nil⟩

theorem lawEncodes {h : AHeap} {p : PProg} {row : List AVal} (R : ProgR h p row) (ok : p.Ok) (hsz : 10 * p.types.length + (p.types.map tB).sum + (p.funcs.map fB).sum + 10 * p.globals.length + 200 < 1073741824)
    (hsz2 : pszT p + pszF p + 3 * p.globals.length + 200 < 1073741824) : CallP AP 3 [.agg row] h fun r h' => r = .bool true := by
  obtain ⟨hc, hl⟩ := ProgR.cellv R
  have ht : List.take 3 row = row := List.take_of_length_le (by omega)
  refine callP (rfl : Tr.get AP 3 = some A3) ?_
  generalize hQ : (fun (r : AVal) (h' : AHeap) => _) = Q
  simp -implicitDefEqProofs (disch := first | decide | assumption | omega | (simp -implicitDefEqProofs only [AM.RN]; first | done | omega) | fail) only [↓AM.R0, AM.R1, AM.R2, Nat.reduceAdd, Nat.reduceLeDiff, Nat.reduceEqDiff, Int.reduceToNat, Nat.reduceLT, ↓reduceIte, Int.reduceEq, Int.reduceLT, Int.reduceLE, hc, hl, ht]
  have f0 := (HFrame.refl (h := h) (F := []) (by simp)).pushTmp (.cells 0 false row)
  have g0 := AHeap.get_push_same h (.cells 0 false row)
  have n0 : (h.push (.cells 0 false row)).n = h.n + 1 := rfl
  generalize h.push (.cells 0 false row) = h0 at *
  refine AM.callI_of (encode' (R.keep f0) hsz2 (fun f hf i hi => (ok.funcs f hf).code i hi |>.imm)) ?_
  rintro r h1 ⟨ov, Fo, f1, rfl, s1⟩
  have f01 := f0.trans f1
  have g1 := (f1.get h.n (by omega) (by simp)).trans g0
  have n1 : h.n < h1.n := by have := f1.n; omega
  simp -implicitDefEqProofs (disch := first | decide | assumption | omega | (simp -implicitDefEqProofs only [AM.RN]; first | done | omega) | fail) only [↓AM.R0, AM.R1, AM.R2, Nat.reduceAdd, Nat.reduceLeDiff, Nat.reduceEqDiff, Int.reduceToNat, Nat.reduceLT, ↓reduceIte, Int.reduceEq, Int.reduceLT, Int.reduceLE, hl, g1, ht]
  refine AM.callI_of (refEncode' (R.keep f01) ok hsz) ?_
  rintro r h2 ⟨ow, Fw, f2, rfl, s2⟩
  simp -implicitDefEqProofs (disch := first | decide | assumption | omega | (simp -implicitDefEqProofs only [AM.RN]; first | done | omega) | fail) only [↓AM.R0, AM.R1, AM.R2, Nat.reduceAdd, Nat.reduceLeDiff, Nat.reduceEqDiff, Int.reduceToNat, Nat.reduceLT, ↓reduceIte, Int.reduceEq, Int.reduceLT, Int.reduceLE]
  refine AM.callI_of (awake h2) ?_
  rintro r h3 ⟨rfl, f3⟩
  simp -implicitDefEqProofs (disch := first | decide | assumption | omega | (simp -implicitDefEqProofs only [AM.RN]; first | done | omega) | fail) only [↓AM.R0, AM.R1, AM.R2, Nat.reduceAdd, Nat.reduceLeDiff, Nat.reduceEqDiff, Int.reduceToNat, Nat.reduceLT, ↓reduceIte, Int.reduceEq, Int.reduceLT, Int.reduceLE]
  refine AM.callI_of (sameB (l := wout p) (.inl ((s1.rd.keep f2).keep f3)) (.inl (s2.rd.keep f3))) ?_
  rintro r h4 ⟨rfl, rfl⟩
  simp -implicitDefEqProofs (disch := first | decide | assumption | omega | (simp -implicitDefEqProofs only [AM.RN]; first | done | omega) | fail) only [↓AM.R0, AM.R1, AM.R2, Nat.reduceAdd, Nat.reduceLeDiff, Nat.reduceEqDiff, Int.reduceToNat, Nat.reduceLT, ↓reduceIte, Int.reduceEq, Int.reduceLT, Int.reduceLE]
  subst hQ
  rfl

def Nz {α : Type} (x : PR α) : Prop := ∀ e n, x = .bad e n → e ≠ 0
theorem Nz.ok {α : Type} (a : α) (n : Nat) : Nz (.ok a n) := fun e m h => by cases h
theorem Nz.bad {α : Type} {e : Int} {n : Nat} (h : e ≠ 0) : Nz (.bad e n : PR α) := fun e' m q => by cases q; exact h
theorem Nz.bind {α β : Type} {x : PR α} {f : α → Nat → PR β} (h : Nz x) (g : ∀ a n, Nz (f a n)) : Nz (x.bind f) := by
  cases x with
  | ok a n => exact g a n
  | bad e n => exact fun e' m q => by cases q; exact h _ _ rfl
theorem Nz.word (fr : Nat) : ∀ (l : List Int) (q i n : Nat), Nz (wordR fr l q i n)
  | [], q, i, n => Nz.bad (by decide)
  | b :: l, q, i, n => by
    unfold wordR
    split
    · exact Nz.bad (by decide)
    · split
      · exact Nz.ok _ _
      · exact Nz.word fr l _ _ _
theorem Nz.num (t : List Int) (lim : Nat) {e : Int} (he : e ≠ 0) (p : Nat) : Nz (pnum t lim e p) := Nz.bind (Nz.word _ _ _ _ _) fun a n => by
  split
  · exact Nz.bad he
  · exact Nz.ok _ _
theorem Nz.list {α : Type} {f : Nat → PR α} (h : ∀ p, Nz (f p)) : ∀ c p, Nz (plist f c p)
  | 0, p => Nz.ok _ _
  | c + 1, p => Nz.bind (h p) fun a n => Nz.bind (Nz.list h c n) fun l n => Nz.ok _ _
theorem Nz.kinds (t : List Int) (lim p : Nat) : Nz (pkinds t lim p) := Nz.bind (Nz.num _ _ (by decide) _) fun a n => Nz.list (fun p => Nz.num _ _ (by decide) _) _ _
theorem Nz.ins (t : List Int) (p : Nat) : Nz (pins t p) := Nz.bind (Nz.list (fun p => Nz.num _ _ (by decide) _) _ _) fun _ _ => Nz.bind (Nz.word _ _ _ _ _) fun _ _ => Nz.bind (Nz.num _ _ (by decide) _) fun _ _ => Nz.bind (Nz.list (fun p => Nz.num _ _ (by decide) _) _ _) fun _ _ => Nz.ok _ _
theorem Nz.dec (t : List Int) : Nz (pdec t) := by
  unfold pdec
  split
  · exact Nz.bad (by decide)
  · exact Nz.bind (Nz.num _ _ (by decide) _) fun _ _ => Nz.bind (Nz.list (fun p => Nz.bind (Nz.num _ _ (by decide) _) fun _ _ => Nz.bind (Nz.kinds _ _ _) fun _ _ => Nz.ok _ _) _ _) fun _ _ => Nz.bind (Nz.kinds _ _ _) fun _ _ => Nz.bind (Nz.num _ _ (by decide) _) fun _ _ =>
      Nz.bind (Nz.list (fun p => Nz.bind (Nz.num _ _ (by decide) _) fun _ _ => Nz.bind (Nz.kinds _ _ _) fun _ _ => Nz.bind (Nz.kinds _ _ _) fun _ _ => Nz.bind (Nz.num _ _ (by decide) _) fun _ _ => Nz.bind (Nz.list (fun p => Nz.ins _ _) _ _) fun _ _ => Nz.ok _ _) _ _) fun _ _ => by
        split
        · exact Nz.bad (by decide)
        · exact Nz.ok _ _
theorem fn_of (t : List Int) : (pdec t).fn = if (pdec t).err = 0 then 0 else -1 := by
  have := Nz.dec t
  cases h : pdec t with
  | ok a n => rfl
  | bad e n => exact (if_neg (this e n h)).symm

theorem lawDecodes {h : AHeap} {v : AVal} {t : List Int} (L : SlIn h 1 encB v t) (hb : ∀ b, b ∈ t → 0 ≤ b ∧ b ≤ 255) (hsz : (pdec t).prog.Sz) : CallP AP 4 [v] h fun r h' => r = .bool true := by
  refine callP (rfl : Tr.get AP 4 = some A4) ?_
  generalize hQ : (fun (r : AVal) (h' : AHeap) => _) = Q
  simp -implicitDefEqProofs (disch := first | decide | assumption | omega | (simp -implicitDefEqProofs only [AM.RN]; first | done | omega) | fail) only [↓AM.R0, AM.R1, AM.R2, Nat.reduceAdd, Nat.reduceLeDiff, Nat.reduceEqDiff, Int.reduceToNat, Nat.reduceLT, ↓reduceIte, Int.reduceEq, Int.reduceLT, Int.reduceLE]
  refine AM.callI_of (decode L hb [] (by simp)) ?_
  rintro r h1 ⟨f1, row, rfl, hr1, hr2, hrow⟩
  simp -implicitDefEqProofs (disch := first | decide | assumption | omega | (simp -implicitDefEqProofs only [AM.RN]; first | done | omega) | fail) only [↓AM.R0, AM.R1, AM.R2, Nat.reduceAdd, Nat.reduceLeDiff, Nat.reduceEqDiff, Int.reduceToNat, Nat.reduceLT, ↓reduceIte, Int.reduceEq, Int.reduceLT, Int.reduceLE, hr1, hr2]
  obtain ⟨hD, hDe⟩ : ∃ hD, hD = (((h1.push (.cells 0 false [.nils, .nils, .nils])).push (.cells 0 false [.int .i64 0, .int .i64 0, .int .i64 0])).set h1.n (.cells 0 false row)).set (h1.n + 1) (.cells 0 false [.int .i64 (pdec t).err, .int .i64 (pdec t).fn, .int .i64 (pdec t).pl]) := ⟨_, rfl⟩
  have fD : HFrame h1 hD [] [] := by rw [hDe]; exact ((((HFrame.refl (by simp)).pushTmp _).pushTmp _).setTmp (Nat.le_refl _) _).setTmp (by omega) _
  have gD : hD.get h1.n = .cells 0 false row := by rw [hDe, AHeap.get_set_ne _ _ (by omega)]; exact AHeap.get_set_same _ _ _
  have gE : hD.get (h1.n + 1) = .cells 0 false [.int .i64 (pdec t).err, .int .i64 (pdec t).fn, .int .i64 (pdec t).pl] := by rw [hDe]; exact AHeap.get_set_same _ _ _
  have nD : hD.n = h1.n + 2 := by rw [hDe]; rfl
  rw [← hDe]
  refine AM.callI_of (refDecode ((L.keep f1).keep fD) hb [] (by simp)) ?_
  rintro r h2 ⟨f2, row2, rfl, hs1, hs2, hrow2⟩
  have hR1 : ProgR h1 (pdec t).prog row := (ProgS.unmask hrow).r
  have hR2 : ProgR h2 (pdec t).prog row2 := (ProgS.unmask hrow2).r
  have gD2 := (f2.get h1.n (by omega) (by simp)).trans gD
  have gE2 := (f2.get (h1.n + 1) (by omega) (by simp)).trans gE
  have n2 := f2.n
  have ht1 : List.take 3 row = row := List.take_of_length_le (by omega)
  have ht2 : List.take 3 row2 = row2 := List.take_of_length_le (by omega)
  simp -implicitDefEqProofs (disch := first | decide | assumption | omega | (simp -implicitDefEqProofs only [AM.RN]; first | done | omega) | fail) only [↓AM.R0, AM.R1, AM.R2, Nat.reduceAdd, Nat.reduceLeDiff, Nat.reduceEqDiff, Int.reduceToNat, Nat.reduceLT, ↓reduceIte, Int.reduceEq, Int.reduceLT, Int.reduceLE, hs1, hs2]
  obtain ⟨hF, hFe⟩ : ∃ hF, hF = (h2.push (.cells 0 false [.nils, .nils, .nils])).set h2.n (.cells 0 false row2) := ⟨_, rfl⟩
  have fF : HFrame h2 hF [] [] := by rw [hFe]; exact ((HFrame.refl (by simp)).pushTmp _).setTmp (Nat.le_refl _) _
  have gF : hF.get h2.n = .cells 0 false row2 := by rw [hFe]; exact AHeap.get_set_same _ _ _
  have nF : hF.n = h2.n + 1 := by rw [hFe]; rfl
  have gDF := (fF.get h1.n (by omega) (by simp)).trans gD2
  have gEF := (fF.get (h1.n + 1) (by omega) (by simp)).trans gE2
  have hfn := fn_of t
  have key : ∀ (e : Env), e.val 3 = .ptr h1.n 0 0 → e.val 4 = .ptr (h1.n + 1) 0 0 → e.val 5 = .ptr h2.n 0 0 → e.val 6 = .int .i64 (pdec t).err → e.val 7 = .int .i64 (pdec t).pl → e.val 8 = .int .i64 (pdec t).fn → wp AP (.seq (.region [⟨(some 22), .call (.fnv 12) [], none⟩,
    ⟨(some 23), .op (.mov (.tmp 22)), none⟩,
    ⟨(some 24), .op (.load (some 3) (.tmp 3)), (some (23, true))⟩,
    ⟨(some 25), .op (.load (some 3) (.tmp 5)), (some (23, true))⟩,
    ⟨(some 26), .call (.fnv 16) [(.tmp 24), (.tmp 25)], (some (23, true))⟩,
    ⟨(some 27), .op (.pick (.tmp 23) (.tmp 26) (.val (.bool false))), none⟩,
    ⟨(some 28), .op (.mov (.tmp 27)), none⟩,
    ⟨(some 29), .op (.load (some 3) (.tmp 4)), (some (28, true))⟩,
    ⟨(some 30), .op (.mov (.tmp 6)), (some (28, true))⟩,
    ⟨(some 31), .op (.mov (.tmp 8)), (some (28, true))⟩,
    ⟨(some 32), .op (.mov (.tmp 7)), (some (28, true))⟩,
    ⟨(some 33), .op (.build [(.int .i64 0), (.int .i64 0), (.int .i64 0)] [(0, 1, (.tmp 30)), (1, 1, (.tmp 31)), (2, 1, (.tmp 32))]), (some (28, true))⟩,
    ⟨(some 34), .op (.eql false (.flat [.int, .int, .int]) (.tmp 29) (.tmp 33)), (some (28, true))⟩,
    ⟨(some 35), .op (.pick (.tmp 28) (.tmp 34) (.val (.bool false))), none⟩,
    ⟨(some 2), .op (.mov (.tmp 35)), none⟩]) .ret) (retQ [.tmp 2] Q) e hF := by
    intro e e3 e4 e5 e6 e7 e8
    simp -implicitDefEqProofs (disch := first | decide | assumption | omega | (simp -implicitDefEqProofs only [AM.RN]; first | done | omega) | fail) only [↓AM.R0, AM.R1, AM.R2, Nat.reduceAdd, Nat.reduceLeDiff, Nat.reduceEqDiff, Int.reduceToNat, Nat.reduceLT, ↓reduceIte, Int.reduceEq, Int.reduceLT, Int.reduceLE]
    refine AM.callI_of (awake hF) ?_
    rintro r h4 ⟨rfl, f4⟩
    have gD4 := (f4.get h1.n (by omega) (by simp)).trans gDF
    have gE4 := (f4.get (h1.n + 1) (by omega) (by simp)).trans gEF
    have gF4 := (f4.get h2.n (by omega) (by simp)).trans gF
    have n4 := f4.n
    simp -implicitDefEqProofs (disch := first | decide | assumption | omega | (simp -implicitDefEqProofs only [AM.RN]; first | done | omega) | fail) only [↓AM.R0, AM.R1, AM.R2, Nat.reduceAdd, Nat.reduceLeDiff, Nat.reduceEqDiff, Int.reduceToNat, Nat.reduceLT, ↓reduceIte, Int.reduceEq, Int.reduceLT, Int.reduceLE, e3, e4, e5, e6, e7, e8, gD4, gF4, hr1, hs1, ht1, ht2]
    have fa := ((fD.trans f2).trans fF).trans f4
    refine AM.callI_of (sameProg (ProgR.keep hR1 fa) (ProgR.keep hR2 (fF.trans f4)) hsz) ?_
    rintro r h5 ⟨rfl, f5⟩
    have gE5 := (f5.get (h1.n + 1) (by omega) (by simp)).trans gE4
    have n5 := f5.n
    simp -implicitDefEqProofs (disch := first | decide | assumption | omega | (simp -implicitDefEqProofs only [AM.RN]; first | done | omega) | fail) only [↓AM.R0, AM.R1, AM.R2, Nat.reduceAdd, Nat.reduceLeDiff, Nat.reduceEqDiff, Int.reduceToNat, Nat.reduceLT, ↓reduceIte, Int.reduceEq, Int.reduceLT, Int.reduceLE, e3, e4, e5, e6, e7, e8, gE5]
    subst hQ
    rfl
  rw [← hFe]
  refine AM.cI_bool (fun hc => ?_) (fun hc => ?_)
  · simp only [Bool.not_eq_true', decide_eq_false_iff_not] at hc
    rw [if_neg hc] at hfn
    simp -implicitDefEqProofs (disch := first | decide | assumption | omega | (simp -implicitDefEqProofs only [AM.RN]; first | done | omega) | fail) only [↓ AM.w_region, ↓ AM.is_op, ↓ AM.is_nil, AM.a_mov, ↓ AM.opI_some, AM.opd_val, ↓ AM.q_seq]
    refine key _ ?_ ?_ ?_ ?_ ?_ ?_ <;> simp -implicitDefEqProofs (disch := first | decide | assumption | omega | (simp -implicitDefEqProofs only [AM.RN]; first | done | omega) | fail) only [↓AM.R0, AM.R1, AM.R2, Nat.reduceAdd, Nat.reduceLeDiff, Nat.reduceEqDiff, Int.reduceToNat, Nat.reduceLT, ↓reduceIte, Int.reduceEq, Int.reduceLT, Int.reduceLE, hfn]
  · simp only [Bool.not_eq_false', decide_eq_true_eq] at hc
    rw [if_pos hc] at hfn
    simp -implicitDefEqProofs (disch := first | decide | assumption | omega | (simp -implicitDefEqProofs only [AM.RN]; first | done | omega) | fail) only [↓ AM.w_skip, ↓ AM.q_seq]
    refine key _ ?_ ?_ ?_ ?_ ?_ ?_ <;> simp -implicitDefEqProofs (disch := first | decide | assumption | omega | (simp -implicitDefEqProofs only [AM.RN]; first | done | omega) | fail) only [↓AM.R0, AM.R1, AM.R2, Nat.reduceAdd, Nat.reduceLeDiff, Nat.reduceEqDiff, Int.reduceToNat, Nat.reduceLT, ↓reduceIte, Int.reduceEq, Int.reduceLT, Int.reduceLE, hfn]
end Go.Proofs.Ytfagngiceofoeaa.Cd

namespace Go.Proofs.Ytfagngiceofoeaa.Cd
open Go Go.AM Go.Proofs.Ytfagngiceofoeaa.AmGC
attribute [local irreducible] AM.wp AM.wpIs AM.wpTr AM.opI AM.gI AM.cI AM.trI AM.callI AM.fnI AM.trG AM.trOp AM.trCall AM.seqC AM.loopI
set_option maxRecDepth 100000
set_option linter.unusedVariables false
set_option linter.unusedSimpArgs false

/-- The types of a program. -/
structure PT (P : Program) (tB tI tU tK tSK tSI tIns tSIns tFunc tSFunc tType tSType tProg : TypeId) : Prop where
  uB : P.underlying tB = some .bool
  uI : P.underlying tI = some (.int .i64)
  uU : P.underlying tU = some (.int .u64)
  uK : P.underlying tK = some (.int .i64)
  uSK : P.underlying tSK = some (.slice tK)
  uSI : P.underlying tSI = some (.slice tI)
  uIns : ∃ fs, P.underlying tIns = some (.struct fs) ∧ fs.toList.map (·.type) = [tI, tI, tI, tI, tU, tSI]
  uSIns : P.underlying tSIns = some (.slice tIns)
  uFunc : ∃ fs, P.underlying tFunc = some (.struct fs) ∧ fs.toList.map (·.type) = [tI, tSK, tSK, tSIns]
  uSFunc : P.underlying tSFunc = some (.slice tFunc)
  uType : ∃ fs, P.underlying tType = some (.struct fs) ∧ fs.toList.map (·.type) = [tB, tSK]
  uSType : P.underlying tSType = some (.slice tType)
  uProg : ∃ fs, P.underlying tProg = some (.struct fs) ∧ fs.toList.map (·.type) = [tSType, tSK, tSFunc]
  cK : P.cellsOf tK = 1
  cI : P.cellsOf tI = 1
  cIns : P.cellsOf tIns = 6
  cFunc : P.cellsOf tFunc = 4
  cType : P.cellsOf tType = 2

def sT (t : Bool × List Int) : Nat := t.2.length + 3
def sI (i : PIns) : Nat := i.list.length + 7
def sF (f : PFunc) : Nat := f.slots.length + f.results.length + (f.code.map sI).sum + 5
def sP (p : PProg) : Nat := (p.types.map sT).sum + p.globals.length + (p.funcs.map sF).sum + 4

theorem slr_map {h : AHeap} {m : Nat} {α β : Type} {f : α → β} {R : β → List AVal → Prop} {v : AVal} {l : List α} (s : SlR h m (fun a row => R (f a) row) v l) : SlR h m R v (l.map f) := by
  rcases s with ⟨a, rfl⟩ | ⟨id, off, a, rfl, c, e⟩ | ⟨id, g, off, vs, ro, rows, rfl, e1, e2, e0, e3, e4, e5, e6⟩
  · exact .inl ⟨a, rfl⟩
  · exact .inr (.inl ⟨id, off, a, rfl, c, e⟩)
  · refine .inr (.inr ⟨id, g, off, vs, ro, rows, by simp, e1, e2, by simpa using e0, by simpa using e3, by simpa using e4, e5, fun i a row h1 h2 => ?_⟩)
    rw [List.getElem?_map] at h1
    simp only [Option.map_eq_some_iff] at h1
    obtain ⟨x, hx, rfl⟩ := h1
    exact e6 i x row hx h2

section
variable {H : Type} {P : Program} {tB tI tU tK tSK tSI tIns tSIns tFunc tSFunc tType tSType tProg : TypeId} (T : PT P tB tI tU tK tSK tSI tIns tSIns tFunc tSFunc tType tSType tProg) {bw : DataW H → Nat} {all : List (DataW H) → Nat} (B : Bulk H bw all) {h : AHeap} {F : Nat}
 include T B
theorem insIn {cs : List AVal} {d : DataW H} (ad : AD P h (F + 3) tIns cs d) : ∃ i : PIns, InsR h i cs ∧ i.Ok ∧ sI i ≤ bw d := by
  obtain ⟨fs, u, e⟩ := T.uIns
  obtain ⟨parts, rfl, q⟩ := adStruct u ad
  rw [e] at q
  obtain ⟨c0, x0, r0, d0, rfl, rfl, _, a0, c1, x1, r1, d1, rfl, rfl, _, a1, c2, x2, r2, d2, rfl, rfl, _, a2, c3, x3, r3, d3, rfl, rfl, _, a3, c4, x4, r4, d4, rfl, rfl, _, a4, c5, x5, r5, d5, rfl, rfl, _, a5, rfl, rfl⟩ := q
  obtain ⟨m0, rfl, rfl, l0, h0⟩ := adInt T.uI a0
  obtain ⟨m1, rfl, rfl, l1, h1⟩ := adInt T.uI a1
  obtain ⟨m2, rfl, rfl, l2, h2⟩ := adInt T.uI a2
  obtain ⟨m3, rfl, rfl, l3, h3⟩ := adInt T.uI a3
  obtain ⟨m4, rfl, rfl, l4, h4⟩ := adInt T.uU a4
  obtain ⟨v, rfl, l, s, hb, w⟩ := SlIn.ofW B T.uSI T.uI T.cI a5
  have mxi : IntKind.i64.max = mx := by decide
  have mxu : IntKind.u64.max = 18446744073709551615 := by decide
  have mnu : IntKind.u64.min = 0 := by decide
  rw [mxi] at h0 h1 h2 h3
  rw [mxu] at h4
  rw [mnu] at l4
  refine ⟨⟨m0, m1, m2, m3, m4.toNat, l⟩, ⟨by simp only; omega, v, ?_, s⟩, ⟨h0, h1, h2, h3, by simp only; omega, fun x hx => mxi ▸ (hb x hx).2⟩, ?_⟩
  · have : ((m4.toNat : Nat) : Int) = m4 := by omega
    simp [this]
  · simp only [B.agg, B.cons, B.nil, B.int, sI]
    omega
theorem funcIn {cs : List AVal} {d : DataW H} (ad : AD P h (F + 5) tFunc cs d) : ∃ f : PFunc, FuncR h f cs ∧ f.Ok ∧ sF f ≤ bw d := by
  obtain ⟨fs, u, e⟩ := T.uFunc
  obtain ⟨parts, rfl, q⟩ := adStruct u ad
  rw [e] at q
  obtain ⟨c0, x0, r0, d0, rfl, rfl, _, a0, c1, x1, r1, d1, rfl, rfl, _, a1, c2, x2, r2, d2, rfl, rfl, _, a2, c3, x3, r3, d3, rfl, rfl, _, a3, rfl, rfl⟩ := q
  obtain ⟨m0, rfl, rfl, l0, h0⟩ := adInt T.uI a0
  obtain ⟨sv, rfl, sl, s1, b1, w1⟩ := SlIn.ofW B T.uSK T.uK T.cK a1
  obtain ⟨rv, rfl, rl, s2, b2, w2⟩ := SlIn.ofW B T.uSK T.uK T.cK a2
  obtain ⟨cv, rfl, cl, s3, w3⟩ := SlR.ofW (F := F + 3) (α := {i : PIns // i.Ok}) B (fun i => sI i.1) T.uSIns a3 (R := fun i row => InsR h i.1 row) (fun row x hl a => by
    obtain ⟨i, q1, q2, q3⟩ := insIn T B a
    exact ⟨⟨i, q2⟩, q1, q3⟩)
  have mxi : IntKind.i64.max = mx := by decide
  rw [mxi] at h0
  rw [T.cIns] at s3
  refine ⟨⟨m0, sl, rl, cl.map (·.1)⟩, ⟨sv, rv, cv, rfl, s1, s2, slr_map s3⟩, ⟨h0, fun x hx => mxi ▸ (b1 x hx).2, fun x hx => mxi ▸ (b2 x hx).2, ?_⟩, ?_⟩
  · intro x hx
    obtain ⟨y, _, rfl⟩ := List.mem_map.1 hx
    exact y.2
  · simp only [B.agg, B.cons, B.nil, B.int, sF, List.map_map]
    have : (List.map (sI ∘ fun x : {i : PIns // i.Ok} => x.1) cl) = cl.map fun i => sI i.1 := rfl
    rw [this]
    omega
theorem typeIn {cs : List AVal} {d : DataW H} (ad : AD P h (F + 3) tType cs d) : ∃ t : Bool × List Int, TypeR h t cs ∧ (∀ x, x ∈ t.2 → x ≤ mx) ∧ sT t ≤ bw d := by
  obtain ⟨fs, u, e⟩ := T.uType
  obtain ⟨parts, rfl, q⟩ := adStruct u ad
  rw [e] at q
  obtain ⟨c0, x0, r0, d0, rfl, rfl, _, a0, c1, x1, r1, d1, rfl, rfl, _, a1, rfl, rfl⟩ := q
  obtain ⟨b, rfl, rfl⟩ := adBool T.uB a0
  obtain ⟨sv, rfl, sl, s1, b1, w1⟩ := SlIn.ofW B T.uSK T.uK T.cK a1
  have mxi : IntKind.i64.max = mx := by decide
  refine ⟨(b, sl), ⟨sv, rfl, s1⟩, fun x hx => mxi ▸ (b1 x hx).2, ?_⟩
  simp only [B.agg, B.cons, B.nil, B.bool, sT]
  omega
theorem progIn {cs : List AVal} {d : DataW H} (ad : AD P h (F + 7) tProg cs d) : ∃ p : PProg, ProgR h p cs ∧ p.Ok ∧ sP p ≤ bw d := by
  obtain ⟨fs, u, e⟩ := T.uProg
  obtain ⟨parts, rfl, q⟩ := adStruct u ad
  rw [e] at q
  obtain ⟨c0, x0, r0, d0, rfl, rfl, _, a0, c1, x1, r1, d1, rfl, rfl, _, a1, c2, x2, r2, d2, rfl, rfl, _, a2, rfl, rfl⟩ := q
  obtain ⟨tv, rfl, tl, s0, w0⟩ := SlR.ofW (F := F + 5) (α := {t : Bool × List Int // ∀ x, x ∈ t.2 → x ≤ mx}) B (fun t => sT t.1) T.uSType a0 (R := fun t row => TypeR h t.1 row) (fun row x hl a => by
    obtain ⟨i, q1, q2, q3⟩ := typeIn T B (F := F + 2) a
    exact ⟨⟨i, q2⟩, q1, q3⟩)
  obtain ⟨gv, rfl, gl, s1, b1, w1⟩ := SlIn.ofW B T.uSK T.uK T.cK a1
  obtain ⟨fv, rfl, fl, s2, w2⟩ := SlR.ofW (F := F + 5) (α := {f : PFunc // f.Ok}) B (fun f => sF f.1) T.uSFunc a2 (R := fun f row => FuncR h f.1 row) (fun row x hl a => by
    obtain ⟨i, q1, q2, q3⟩ := funcIn T B a
    exact ⟨⟨i, q2⟩, q1, q3⟩)
  have mxi : IntKind.i64.max = mx := by decide
  rw [T.cType] at s0
  rw [T.cFunc] at s2
  refine ⟨⟨tl.map (·.1), gl, fl.map (·.1)⟩, ⟨tv, gv, fv, rfl, slr_map s0, s1, slr_map s2⟩, ⟨?_, fun x hx => mxi ▸ (b1 x hx).2, ?_⟩, ?_⟩
  · intro x hx
    obtain ⟨y, _, rfl⟩ := List.mem_map.1 hx
    exact y.2
  · intro x hx
    obtain ⟨y, _, rfl⟩ := List.mem_map.1 hx
    exact y.2
  · simp only [B.agg, B.cons, B.nil, sP, List.map_map]
    have e1 : (List.map (sT ∘ fun x : {t : Bool × List Int // ∀ x, x ∈ t.2 → x ≤ mx} => x.1) tl) = tl.map fun i => sT i.1 := rfl
    have e2 : (List.map (sF ∘ fun x : {f : PFunc // f.Ok} => x.1) fl) = fl.map fun i => sF i.1 := rfl
    rw [e1, e2]
    omega
end
theorem sum_le {α : Type} (f g : α → Nat) (c : Nat) (l : List α) (h : ∀ a, a ∈ l → f a ≤ c * g a) : (l.map f).sum ≤ c * (l.map g).sum := by
  induction l with
  | nil => simp
  | cons a l ih =>
    have h1 := h a List.mem_cons_self
    have h2 := ih fun a ha => h a (List.mem_cons_of_mem _ ha)
    simp only [List.map_cons, List.sum_cons, Nat.mul_add]; omega
theorem sizes {p : PProg} (h : sP p ≤ 1048577) : 10 * p.types.length + (p.types.map tB).sum + (p.funcs.map fB).sum + 10 * p.globals.length + 200 < 1073741824 ∧ pszT p + pszF p + 3 * p.globals.length + 200 < 1073741824 ∧ p.Sz := by
  have e1 := sum_le tB sT 20 p.types fun t _ => by unfold tB sT; omega
  have e2 := sum_le fB sF 20 p.funcs fun f _ => by
    have := sum_le iB sI 20 f.code fun i _ => by unfold iB sI; omega
    unfold fB sF; omega
  have e3 := sum_le tsz sT 20 p.types fun t _ => by unfold tsz sT; omega
  have e4 := sum_le fsz sF 20 p.funcs fun f _ => by
    have := sum_le isz sI 20 f.code fun i _ => by unfold isz sI; omega
    unfold fsz sF; omega
  have e5 := len_sum sT (fun a => by unfold sT; omega) p.types
  have e6 := len_sum sF (fun a => by unfold sF; omega) p.funcs
  unfold sP at h
  refine ⟨by omega, by unfold pszT pszF; omega, by omega, by omega, by omega, fun t ht => ?_, fun f hf => ?_⟩
  · obtain ⟨i, hi⟩ := List.getElem?_of_mem ht
    have := sum_mem sT hi
    have e : sT t = t.2.length + 3 := rfl
    omega
  · obtain ⟨i, hi⟩ := List.getElem?_of_mem hf
    have := sum_mem sF hi
    have e : sF f = f.slots.length + f.results.length + (f.code.map sI).sum + 5 := rfl
    have e7 := len_sum sI (fun a => by unfold sI; omega) f.code
    refine ⟨by omega, by omega, by omega, fun i hi => ?_⟩
    obtain ⟨j, hj⟩ := List.getElem?_of_mem hi
    have := sum_mem sI hj
    have e8 : sI i = i.list.length + 7 := rfl
    show i.list.length ≤ _
    omega
end Go.Proofs.Ytfagngiceofoeaa.Cd

namespace Go.Proofs.Ytfagngiceofoeaa.Cd
open Go Go.AM Go.Proofs.Ytfagngiceofoeaa.AmGC
attribute [local irreducible] AM.wp AM.wpIs AM.wpTr AM.opI AM.gI AM.cI AM.trI AM.callI AM.fnI AM.trG AM.trOp AM.trCall AM.seqC AM.loopI
set_option maxRecDepth 100000
set_option linter.unusedVariables false
set_option linter.unusedSimpArgs false

def Al {α : Type} (Q : α → Prop) (x : PR α) : Prop := ∀ a n, x = .ok a n → Q a
theorem Al.ok {α : Type} {Q : α → Prop} {a : α} {n : Nat} (h : Q a) : Al Q (.ok a n) := fun b m e => by cases e; exact h
theorem Al.bad {α : Type} {Q : α → Prop} {e : Int} {n : Nat} : Al Q (.bad e n) := fun b m e => by cases e
theorem Al.bind {α β : Type} {R : α → Prop} {Q : β → Prop} {x : PR α} {f : α → Nat → PR β} (h : Al R x) (g : ∀ a n, R a → Al Q (f a n)) : Al Q (x.bind f) := by
  cases x with
  | ok a n => exact g a n (h a n rfl)
  | bad e n => exact Al.bad
theorem Al.any {α : Type} (x : PR α) : Al (fun _ => True) x := fun _ _ _ => trivial
theorem Al.num (t : List Int) (lim : Nat) (e : Int) (p : Nat) : Al (fun n => n ≤ lim) (pnum t lim e p) := Al.bind (Al.any _) fun a n _ => by
  split
  · exact Al.bad
  · exact Al.ok (by omega)
theorem Al.list {α : Type} {Q : α → Prop} {f : Nat → PR α} (h : ∀ p, Al Q (f p)) : ∀ c p, Al (fun l => l.length = c ∧ ∀ a, a ∈ l → Q a) (plist f c p)
  | 0, p => Al.ok ⟨rfl, by simp⟩
  | c + 1, p => Al.bind (h p) fun a n ha => Al.bind (Al.list h c n) fun l m hl => Al.ok ⟨by simp [hl.1], fun b hb => by
      rcases List.mem_cons.1 hb with e | e
      · rw [e]; exact ha
      · exact hl.2 b e⟩
theorem Al.kinds (t : List Int) (lim p : Nat) : Al (fun l => l.length ≤ lim ∧ ∀ a, a ∈ l → a ≤ 65535) (pkinds t lim p) := Al.bind (Al.num _ _ _ _) fun n q hn => by
  intro l m e
  have := Al.list (fun p => Al.num t 65535 1 p) n q l m e
  exact ⟨by omega, this.2⟩

/-- What is read is small. -/
structure PIns.Lo (i : PIns) : Prop where
  op : 0 ≤ i.op ∧ i.op ≤ 65535
  a : 0 ≤ i.a ∧ i.a ≤ 65535
  b : 0 ≤ i.b ∧ i.b ≤ 65535
  c : 0 ≤ i.c ∧ i.c ≤ 65535
  imm : i.imm < 18446744073709551616
  len : i.list.length ≤ 24
  list : ∀ x, x ∈ i.list → 0 ≤ x ∧ x ≤ 65535
structure PFunc.Lo (f : PFunc) : Prop where
  params : 0 ≤ f.params ∧ f.params ≤ 65535
  slots : f.slots.length ≤ 32 ∧ ∀ x, x ∈ f.slots → 0 ≤ x ∧ x ≤ 65535
  results : f.results.length ≤ 32 ∧ ∀ x, x ∈ f.results → 0 ≤ x ∧ x ≤ 65535
  code : f.code.length ≤ 256 ∧ ∀ x, x ∈ f.code → x.Lo
structure PProg.Lo (p : PProg) : Prop where
  types : p.types.length ≤ 32 ∧ ∀ t, t ∈ p.types → t.2.length ≤ 16 ∧ ∀ x, x ∈ t.2 → 0 ≤ x ∧ x ≤ 65535
  globals : p.globals.length ≤ 32 ∧ ∀ x, x ∈ p.globals → 0 ≤ x ∧ x ≤ 65535
  funcs : p.funcs.length ≤ 32 ∧ ∀ f, f ∈ p.funcs → f.Lo
theorem asK_lo {l : List Nat} {n : Nat} (h : ∀ a, a ∈ l → a ≤ n) : ∀ x, x ∈ asK l → 0 ≤ x ∧ x ≤ (n : Int) := fun x hx => by
  obtain ⟨a, ha, rfl⟩ := List.mem_map.1 hx
  have := h a ha
  exact ⟨Int.natCast_nonneg _, Int.ofNat_le.2 this⟩
/-- A word's size. -/
theorem wordR_lt (fr : Nat) : ∀ (l : List Int) (q i n : Nat), i ≤ 9 → n < 2 ^ (7 * i) → Al (fun m => m < 18446744073709551616) (wordR fr l q i n)
  | [], _, _, _, _, _ => Al.bad
  | b :: l, q, i, n, hi, hn => by
    unfold wordR
    split
    · exact Al.bad
    · rename_i hc
      have hx : n + b.toNat % 128 * 2 ^ (7 * i) < 2 ^ (7 * i + 7) := by
        have h1 : b.toNat % 128 < 128 := Nat.mod_lt _ (by omega)
        have h2 : (b.toNat % 128 + 1) * 2 ^ (7 * i) ≤ 128 * 2 ^ (7 * i) := Nat.mul_le_mul_right _ h1
        rw [Nat.pow_add, Nat.add_mul] at *
        omega
      have hx64 : n + b.toNat % 128 * 2 ^ (7 * i) < 18446744073709551616 := by
        by_cases h9 : i = 9
        · subst h9
          have h1 : b.toNat ≤ 1 := by omega
          have h2 : b.toNat % 128 ≤ 1 := by omega
          have h3 := Nat.mul_le_mul_right (2 ^ (7 * 9)) h2
          have h4 : (2 : Nat) ^ (7 * 9) = 9223372036854775808 := by decide
          omega
        · have h5 : (2 : Nat) ^ (7 * i + 7) ≤ 2 ^ 63 := Nat.pow_le_pow_right (by omega) (by omega)
          have h4 : (2 : Nat) ^ 63 = 9223372036854775808 := by decide
          omega
      split
      · exact Al.ok hx64
      · rename_i hb
        exact wordR_lt fr l _ _ _ (by omega) (by rw [Nat.mul_add]; exact hx)
theorem Al.word (t : List Int) (p : Nat) : Al (fun m => m < 18446744073709551616) (pword t p) := wordR_lt _ _ _ _ _ (by omega) (by simp)
theorem Al.ins (t : List Int) (p : Nat) : Al PIns.Lo (pins t p) := Al.bind (Al.list (fun p => Al.num t 65535 1 p) _ _) fun l _ hl => Al.bind (Al.word _ _) fun imm _ hi => Al.bind (Al.num _ _ _ _) fun n _ hn => Al.bind (Al.list (fun p => Al.num t 65535 1 p) _ _) fun li _ hli => by
  have key : ∀ k, 0 ≤ ((l.getD k 0 : Nat) : Int) ∧ ((l.getD k 0 : Nat) : Int) ≤ 65535 := fun k => by
    have : l.getD k 0 ≤ 65535 := by
      rw [List.getD_eq_getElem?_getD]
      cases h : l[k]? with
      | none => simp
      | some a => simp only [Option.getD_some]; exact hl.2 a (List.mem_of_getElem? h)
    omega
  exact Al.ok ⟨key 0, key 1, key 2, key 3, hi, by simp only [asK, List.length_map]; omega, asK_lo (n := 65535) hli.2⟩
theorem Al.func (t : List Int) (p : Nat) : Al PFunc.Lo (pfunc t p) := Al.bind (Al.num _ _ _ _) fun a _ ha => Al.bind (Al.kinds _ _ _) fun s _ hs => Al.bind (Al.kinds _ _ _) fun r _ hr => Al.bind (Al.num _ _ _ _) fun n _ hn => Al.bind (Al.list (fun p => Al.ins t p) _ _) fun c _ hc =>
  Al.ok ⟨⟨by simp only; omega, by simp only; omega⟩, ⟨by simp only [asK, List.length_map]; omega, asK_lo (n := 65535) hs.2⟩, ⟨by simp only [asK, List.length_map]; omega, asK_lo (n := 65535) hr.2⟩, ⟨by simp only; omega, hc.2⟩⟩
theorem Al.prog (t : List Int) : Al PProg.Lo (pprog t) := Al.bind (Al.num _ _ _ _) fun n _ hn => Al.bind (Al.list (Q := fun t : Bool × List Int => t.2.length ≤ 16 ∧ ∀ x, x ∈ t.2 → 0 ≤ x ∧ x ≤ 65535) (fun p => Al.bind (Al.any _) fun b _ _ => Al.bind (Al.kinds _ _ _) fun l _ hl => Al.ok ⟨by simp only [asK, List.length_map]; omega, asK_lo (n := 65535) hl.2⟩) _ _) fun ts _ hts =>
  Al.bind (Al.kinds _ _ _) fun g _ hg => Al.bind (Al.num _ _ _ _) fun m _ hm => Al.bind (Al.list (fun p => Al.func t p) _ _) fun fs _ hfs => by
    split
    · exact Al.bad
    · exact Al.ok ⟨⟨by simp only; omega, hts.2⟩, ⟨by simp only [asK, List.length_map]; omega, asK_lo (n := 65535) hg.2⟩, ⟨by simp only; omega, hfs.2⟩⟩
theorem pdec_lo (t : List Int) : (pdec t).prog.Lo := by
  have emp : PProg.Lo ⟨[], [], []⟩ := ⟨⟨by simp, by simp⟩, ⟨by simp, by simp⟩, ⟨by simp, by simp⟩⟩
  unfold pdec
  split
  · exact emp
  · cases h : pprog t with
    | ok p n => exact Al.prog t p n h
    | bad e n => exact emp
theorem PProg.Lo.sz {p : PProg} (h : p.Lo) : p.Sz := by
  obtain ⟨⟨a, b⟩, ⟨c, d⟩, e, f⟩ := h
  refine ⟨by omega, by omega, by omega, fun t ht => by have := (b t ht).1; omega, fun g hg => ?_⟩
  obtain ⟨_, ⟨s, _⟩, ⟨r, _⟩, ⟨q, w⟩⟩ := f g hg
  exact ⟨by omega, by omega, by omega, fun i hi => by have := (w i hi).len; show i.list.length ≤ _; omega⟩
end Go.Proofs.Ytfagngiceofoeaa.Cd

