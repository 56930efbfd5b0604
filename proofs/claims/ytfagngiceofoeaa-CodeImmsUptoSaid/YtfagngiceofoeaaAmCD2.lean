/-
  What the functions of this seat do, on the machine: lemmas for the laws.
-/
import Derived.Test.YtfagngiceofoeaaAmCK
import Derived.Test.YtfagngiceofoeaaAmCD1
namespace Go.Proofs.Ytfagngiceofoeaa.Cd
open Go Go.AM Go.Proofs.Ytfagngiceofoeaa.AmGC
attribute [local irreducible] AM.wp AM.wpIs AM.wpTr AM.opI AM.gI AM.cI AM.trI AM.callI AM.fnI AM.trG AM.trOp AM.trCall AM.seqC AM.loopI
set_option maxRecDepth 100000
set_option linter.unusedVariables false
set_option linter.unusedSimpArgs false

theorem two_of {vs : List AVal} {off : Nat} {a b : AVal} (e : (vs.drop off).take 2 = [a, b]) : vs[off]? = some a ∧ vs[off + 1]? = some b := by
  have h1 : ((vs.drop off).take 2)[0]? = some a := by rw [e]; rfl
  have h2 : ((vs.drop off).take 2)[1]? = some b := by rw [e]; rfl
  rw [List.getElem?_take, if_pos (by omega), List.getElem?_drop] at h1 h2
  exact ⟨h1, h2⟩

theorem sameKinds {h : AHeap} {v w : AVal} {l : List Int} (L : SlIn h 1 encK v l) (M : SlIn h 1 encK w l) (hl : l.length ≤ 9223372036854775807) : CallP AP 34 [v, w] h fun r h' => r = .bool true ∧ h' = h := by
  refine callP (rfl : Tr.get AP 34 = some A34) ?_
  generalize hQ : (fun (r : AVal) (h' : AHeap) => _) = Q
  have l1 := L.len
  have l2 := M.len
  simp -implicitDefEqProofs (disch := first | decide | assumption | omega | (simp -implicitDefEqProofs only [AM.RN]; first | done | omega) | fail) only [↓AM.R0, AM.R1, AM.R2, Nat.reduceAdd, Nat.reduceLeDiff, Nat.reduceEqDiff, Int.reduceToNat, Nat.reduceLT, ↓reduceIte, Int.reduceEq, Int.reduceLT, Int.reduceLE, l1, l2]
  refine AM.loopI_of (fun k e h' => ∃ i : Nat, k + i = l.length ∧ e.val 0 = v ∧ e.val 1 = w ∧ e.val 5 = .int .i64 i ∧ h' = h) l.length ?_ ?_
  · refine ⟨0, by omega, ?_, ?_, ?_, rfl⟩ <;> simp -implicitDefEqProofs (disch := first | decide | assumption | omega | (simp -implicitDefEqProofs only [AM.RN]; first | done | omega) | fail) only [↓AM.R0, AM.R1, AM.R2, Nat.reduceAdd, Nat.reduceLeDiff, Nat.reduceEqDiff, Int.reduceToNat, Nat.reduceLT, ↓reduceIte, Int.reduceEq, Int.reduceLT, Int.reduceLE] <;> rfl
  · rintro k e h' ⟨i, hk, e0, e1, e5, rfl⟩
    simp -implicitDefEqProofs (disch := first | decide | assumption | omega | (simp -implicitDefEqProofs only [AM.RN]; first | done | omega) | fail) only [↓AM.R0, AM.R1, AM.R2, Nat.reduceAdd, Nat.reduceLeDiff, Nat.reduceEqDiff, Int.reduceToNat, Nat.reduceLT, ↓reduceIte, Int.reduceEq, Int.reduceLT, Int.reduceLE, e0, e1, e5, l1, l2]
    refine AM.cI_bool (fun hb => ?_) (fun hb => ?_)
    · simp only [decide_eq_true_eq] at hb
      obtain ⟨a, ha⟩ : ∃ a, l[i]? = some a := ⟨_, List.getElem?_eq_getElem (by omega)⟩
      obtain ⟨j, g, off, vs, ro, x1, x2, x3, x5⟩ := (L.rd ha).ix1 (enc := fun n => .int .i64 n) ha .i64
      obtain ⟨j2, g2, off2, vs2, ro2, y1, y2, y3, y5⟩ := (M.rd ha).ix1 (enc := fun n => .int .i64 n) ha .i64
      have hw : IntKind.i64.wrap ((i : Int) + 1) = ((i + 1 : Nat) : Int) := wrap64 (by omega) (by omega)
      simp -implicitDefEqProofs (disch := first | decide | assumption | omega | (simp -implicitDefEqProofs only [AM.RN]; first | done | omega) | fail) only [↓AM.R0, AM.R1, AM.R2, Nat.reduceAdd, Nat.reduceLeDiff, Nat.reduceEqDiff, Int.reduceToNat, Nat.reduceLT, ↓reduceIte, Int.reduceEq, Int.reduceLT, Int.reduceLE, e0, e1, e5, x1, x2, x5, y1, y2, y5, hw]
      exact ⟨l.length - (i + 1), by omega, i + 1, by omega, rfl⟩
    · simp -implicitDefEqProofs (disch := first | decide | assumption | omega | (simp -implicitDefEqProofs only [AM.RN]; first | done | omega) | fail) only [↓AM.R0, AM.R1, AM.R2, Nat.reduceAdd, Nat.reduceLeDiff, Nat.reduceEqDiff, Int.reduceToNat, Nat.reduceLT, ↓reduceIte, Int.reduceEq, Int.reduceLT, Int.reduceLE]
      subst hQ
      exact ⟨rfl, rfl⟩

theorem sameIns {h : AHeap} {i : PIns} {row row2 : List AVal} (R : InsR h i row) (R2 : InsR h i row2) (hl : i.list.length ≤ 9223372036854775807) : CallP AP 35 [.agg row, .agg row2] h fun r h' => r = .bool true ∧ HFrame h h' [] [] := by
  obtain ⟨_, v, rfl, L⟩ := R
  obtain ⟨_, w, rfl, M⟩ := R2
  refine callP (rfl : Tr.get AP 35 = some A35) ?_
  generalize hQ : (fun (r : AVal) (h' : AHeap) => _) = Q
  have l1 := L.len
  have l2 := M.len
  have c1 := (SlIn.cells L).2
  have c2 := (SlIn.cells M).2
  have f0 := HFrame.refl (h := h) (F := []) (by simp)
  have f2 := (f0.pushTmp (.cells 0 false [.int .i64 i.op, .int .i64 i.a, .int .i64 i.b, .int .i64 i.c, .int .u64 i.imm, v])).pushTmp (.cells 0 false [.int .i64 i.op, .int .i64 i.a, .int .i64 i.b, .int .i64 i.c, .int .u64 i.imm, w])
  simp -implicitDefEqProofs (disch := first | decide | assumption | omega | (simp -implicitDefEqProofs only [AM.RN]; first | done | omega) | fail) only [↓AM.R0, AM.R1, AM.R2, Nat.reduceAdd, Nat.reduceLeDiff, Nat.reduceEqDiff, Int.reduceToNat, Nat.reduceLT, ↓reduceIte, Int.reduceEq, Int.reduceLT, Int.reduceLE, l1, l2, c1, c2]
  obtain ⟨hB, hBe⟩ : ∃ hB, hB = (h.push (.cells 0 false [.int .i64 i.op, .int .i64 i.a, .int .i64 i.b, .int .i64 i.c, .int .u64 i.imm, v])).push (.cells 0 false [.int .i64 i.op, .int .i64 i.a, .int .i64 i.b, .int .i64 i.c, .int .u64 i.imm, w]) := ⟨_, rfl⟩
  have g0 : hB.get h.n = .cells 0 false [.int .i64 i.op, .int .i64 i.a, .int .i64 i.b, .int .i64 i.c, .int .u64 i.imm, v] := by rw [hBe, AHeap.get_push_ne _ _ (by simp)]; exact AHeap.get_push_same _ _
  have g1 : hB.get (h.n + 1) = .cells 0 false [.int .i64 i.op, .int .i64 i.a, .int .i64 i.b, .int .i64 i.c, .int .u64 i.imm, w] := by rw [hBe]; exact AHeap.get_push_same _ _
  have nB : hB.n = h.n + 2 := by rw [hBe]; rfl
  rw [← hBe] at f2 ⊢
  have LB := L.keep f2
  have MB := M.keep f2
  refine AM.loopI_of (fun k e h' => ∃ x : Nat, k + x = i.list.length ∧ e.val 2 = .ptr h.n 0 0 ∧ e.val 3 = .ptr (h.n + 1) 0 0 ∧ e.val 5 = .int .i64 x ∧ h' = hB) i.list.length ?_ ?_
  · refine ⟨0, by omega, ?_, ?_, ?_, rfl⟩ <;> simp -implicitDefEqProofs (disch := first | decide | assumption | omega | (simp -implicitDefEqProofs only [AM.RN]; first | done | omega) | fail) only [↓AM.R0, AM.R1, AM.R2, Nat.reduceAdd, Nat.reduceLeDiff, Nat.reduceEqDiff, Int.reduceToNat, Nat.reduceLT, ↓reduceIte, Int.reduceEq, Int.reduceLT, Int.reduceLE] <;> rfl
  · rintro k e h' ⟨x, hk, e2, e3, e5, rfl⟩
    simp -implicitDefEqProofs (disch := first | decide | assumption | omega | (simp -implicitDefEqProofs only [AM.RN]; first | done | omega) | fail) only [↓AM.R0, AM.R1, AM.R2, Nat.reduceAdd, Nat.reduceLeDiff, Nat.reduceEqDiff, Int.reduceToNat, Nat.reduceLT, ↓reduceIte, Int.reduceEq, Int.reduceLT, Int.reduceLE, e2, e3, e5, l1, l2, g0, g1]
    refine AM.cI_bool (fun hb => ?_) (fun hb => ?_)
    · simp only [decide_eq_true_eq] at hb
      obtain ⟨a, ha⟩ : ∃ a, i.list[x]? = some a := ⟨_, List.getElem?_eq_getElem (by omega)⟩
      obtain ⟨j, g, off, vs, ro, x1, x2, x3, x5⟩ := (LB.rd ha).ix1 (enc := fun n => .int .i64 n) ha .i64
      obtain ⟨j2, g2, off2, vs2, ro2, y1, y2, y3, y5⟩ := (MB.rd ha).ix1 (enc := fun n => .int .i64 n) ha .i64
      have hw : IntKind.i64.wrap ((x : Int) + 1) = ((x + 1 : Nat) : Int) := wrap64 (by omega) (by omega)
      simp -implicitDefEqProofs (disch := first | decide | assumption | omega | (simp -implicitDefEqProofs only [AM.RN]; first | done | omega) | fail) only [↓AM.R0, AM.R1, AM.R2, Nat.reduceAdd, Nat.reduceLeDiff, Nat.reduceEqDiff, Int.reduceToNat, Nat.reduceLT, ↓reduceIte, Int.reduceEq, Int.reduceLT, Int.reduceLE, e2, e3, e5, g0, g1, x1, x2, x5, y1, y2, y5, hw]
      exact ⟨i.list.length - (x + 1), by omega, x + 1, by omega, rfl⟩
    · simp -implicitDefEqProofs (disch := first | decide | assumption | omega | (simp -implicitDefEqProofs only [AM.RN]; first | done | omega) | fail) only [↓AM.R0, AM.R1, AM.R2, Nat.reduceAdd, Nat.reduceLeDiff, Nat.reduceEqDiff, Int.reduceToNat, Nat.reduceLT, ↓reduceIte, Int.reduceEq, Int.reduceLT, Int.reduceLE]
      subst hQ
      exact ⟨rfl, f2⟩

theorem SlIn.beqv {h : AHeap} {esz : Nat} {α : Type} {enc : α → List AVal} {v : AVal} {l : List α} (s : SlIn h esz enc v l) : v.beq v = true := by
  rcases s with s | ⟨_, _, _, rfl, _⟩
  · exact s.beq
  · exact AM.beq_sl _ _ _ _ _
theorem SlR.beqv {h : AHeap} {esz : Nat} {α : Type} {R : α → List AVal → Prop} {v : AVal} {l : List α} (s : SlR h esz R v l) : v.beq v = true := by
  rcases s with ⟨rfl, _⟩ | ⟨_, _, rfl, _⟩ | ⟨_, _, _, _, _, _, rfl, _⟩
  · rfl
  · exact AM.beq_sl _ _ _ _ _
  · exact AM.beq_sl _ _ _ _ _
theorem SlR.atv {h : AHeap} {esz : Nat} {α : Type} {R : α → List AVal → Prop} {v : AVal} {l : List α} (s : SlR h esz R v l) {i : Nat} {a : α} (hi : l[i]? = some a) :
    ∃ id g off vs ro row, v = .sl id g off l.length esz ∧ h.get id = .cells g ro vs ∧ id < h.n ∧ off + i * esz + esz ≤ vs.length ∧ (vs.drop (off + i * esz)).take esz = row ∧ row.length = esz ∧ R a row := by
  have hlt : i < l.length := (List.getElem?_eq_some_iff.1 hi).1
  obtain ⟨id, g, off, vs, ro, row, e1, e2, e3, e4, e5, e6, e7⟩ := s.ix hi .i64
  rcases s with ⟨_, rfl⟩ | ⟨id', off', _, rfl, _⟩ | ⟨id', g', off', vs', ro', rows, rfl, a1, a2, _⟩
  · simp at hi
  · simp at hi
  · rw [AM.ix_sl h a1 (Int.natCast_nonneg _) (by omega)] at e1
    simp only [Option.some.injEq, Prod.mk.injEq, AVal.ptr.injEq, and_true, Int.toNat_natCast] at e1
    obtain ⟨rfl, rfl, rfl⟩ := e1
    rw [a1] at e2
    simp only [AObj.cells.injEq, true_and] at e2
    obtain ⟨rfl, rfl⟩ := e2
    exact ⟨_, _, off', _, _, row, rfl, a1, a2, e4, e5, e6, e7⟩

def PIns.Sz (i : PIns) : Prop := i.list.length ≤ 9223372036854775807
def PFunc.Sz (f : PFunc) : Prop := f.slots.length ≤ 9223372036854775807 ∧ f.results.length ≤ 9223372036854775807 ∧ f.code.length ≤ 9223372036854775807 ∧ ∀ i, i ∈ f.code → i.Sz
def PProg.Sz (p : PProg) : Prop := p.types.length ≤ 9223372036854775807 ∧ p.globals.length ≤ 9223372036854775807 ∧ p.funcs.length ≤ 9223372036854775807 ∧ (∀ t, t ∈ p.types → t.2.length ≤ 9223372036854775807) ∧ ∀ f, f ∈ p.funcs → f.Sz

theorem HFrame.keepR {h h' : AHeap} (f : HFrame h h' [] []) : h.n ≤ h'.n ∧ ∀ j, j < h.n → h'.get j = h.get j := ⟨f.n, fun j hj => f.get j hj (by simp)⟩

set_option maxHeartbeats 2000000 in
theorem sameProg {h : AHeap} {p : PProg} {row row2 : List AVal} (R : ProgR h p row) (R2 : ProgR h p row2) (hz : p.Sz) : CallP AP 16 [.agg row, .agg row2] h fun r h' => r = .bool true ∧ HFrame h h' [] [] := by
  obtain ⟨tv, gv, fv, rfl, RT, RG, RF⟩ := R
  obtain ⟨tw, gw, fw, rfl, ST, SG, SF⟩ := R2
  obtain ⟨z1, z2, z3, z4, z5⟩ := hz
  refine callP (rfl : Tr.get AP 16 = some A16) ?_
  generalize hQ : (fun (r : AVal) (h' : AHeap) => _) = Q
  have c1 := SlR.cellv RT
  have c2 := SlIn.cellv RG
  have c3 := SlR.cellv RF
  have c4 := SlR.cellv ST
  have c5 := SlIn.cellv SG
  have c6 := SlR.cellv SF
  have l1 := RT.len
  have l3 := RF.len
  have l4 := ST.len
  have l6 := SF.len
  have f0 := HFrame.refl (h := h) (F := []) (by simp)
  have f2 := (f0.pushTmp (.cells 0 false [tv, gv, fv])).pushTmp (.cells 0 false [tw, gw, fw])
  simp -implicitDefEqProofs (disch := first | decide | assumption | omega | (simp -implicitDefEqProofs only [AM.RN]; first | done | omega) | fail) only [↓AM.R0, AM.R1, AM.R2, Nat.reduceAdd, Nat.reduceLeDiff, Nat.reduceEqDiff, Int.reduceToNat, Nat.reduceLT, ↓reduceIte, Int.reduceEq, Int.reduceLT, Int.reduceLE, c1, c2, c3, c4, c5, c6, l1, l3, l4, l6]
  obtain ⟨hB, hBe⟩ : ∃ hB, hB = (h.push (.cells 0 false [tv, gv, fv])).push (.cells 0 false [tw, gw, fw]) := ⟨_, rfl⟩
  have g0 : hB.get h.n = .cells 0 false [tv, gv, fv] := by rw [hBe, AHeap.get_push_ne _ _ (by simp)]; exact AHeap.get_push_same _ _
  have g1 : hB.get (h.n + 1) = .cells 0 false [tw, gw, fw] := by rw [hBe]; exact AHeap.get_push_same _ _
  have nB : hB.n = h.n + 2 := by rw [hBe]; rfl
  rw [← hBe] at f2 ⊢
  have k2 := HFrame.keepR f2
  have RTB := RT.mono (fun _ _ q => TypeR.mono k2.1 k2.2 q) k2.1 k2.2
  have STB := ST.mono (fun _ _ q => TypeR.mono k2.1 k2.2 q) k2.1 k2.2
  have RFB := RF.mono (fun _ _ q => FuncR.mono k2.1 k2.2 q) k2.1 k2.2
  have SFB := SF.mono (fun _ _ q => FuncR.mono k2.1 k2.2 q) k2.1 k2.2
  refine AM.callI_of (sameKinds (RG.keep f2) (SG.keep f2) z2) ?_
  rintro r h' ⟨rfl, rfl⟩
  simp -implicitDefEqProofs (disch := first | decide | assumption | omega | (simp -implicitDefEqProofs only [AM.RN]; first | done | omega) | fail) only [↓AM.R0, AM.R1, AM.R2, Nat.reduceAdd, Nat.reduceLeDiff, Nat.reduceEqDiff, Int.reduceToNat, Nat.reduceLT, ↓reduceIte, Int.reduceEq, Int.reduceLT, Int.reduceLE]
  refine AM.loopI_of (fun k e h2 => ∃ x : Nat, k + x = p.types.length ∧ e.val 2 = .ptr h.n 0 0 ∧ e.val 3 = .ptr (h.n + 1) 0 0 ∧ e.val 5 = .int .i64 x ∧ h2 = h') p.types.length ?_ ?_
  · refine ⟨0, by omega, ?_, ?_, ?_, rfl⟩ <;> simp -implicitDefEqProofs (disch := first | decide | assumption | omega | (simp -implicitDefEqProofs only [AM.RN]; first | done | omega) | fail) only [↓AM.R0, AM.R1, AM.R2, Nat.reduceAdd, Nat.reduceLeDiff, Nat.reduceEqDiff, Int.reduceToNat, Nat.reduceLT, ↓reduceIte, Int.reduceEq, Int.reduceLT, Int.reduceLE] <;> rfl
  · rintro k e h2 ⟨x, hk, e2, e3, e5, rfl⟩
    simp -implicitDefEqProofs (disch := first | decide | assumption | omega | (simp -implicitDefEqProofs only [AM.RN]; first | done | omega) | fail) only [↓AM.R0, AM.R1, AM.R2, Nat.reduceAdd, Nat.reduceLeDiff, Nat.reduceEqDiff, Int.reduceToNat, Nat.reduceLT, ↓reduceIte, Int.reduceEq, Int.reduceLT, Int.reduceLE, e2, e3, e5, l1, g0]
    refine AM.cI_bool (fun hb => ?_) (fun hb => ?_)
    · simp only [decide_eq_true_eq] at hb
      obtain ⟨a, ha⟩ : ∃ a, p.types[x]? = some a := ⟨_, List.getElem?_eq_getElem (by omega)⟩
      obtain ⟨j, g, off, vs, ro, row, x1, x2, x3, x4, x5, x6, fl, rfl, xl⟩ := RTB.ix ha .i64
      obtain ⟨j2, gg2, off2, vs2, ro2, row2, y1, y2, y3, y4, y5, y6, fl2, rfl, yl⟩ := STB.ix ha .i64
      have hw : IntKind.i64.wrap ((x : Int) + 1) = ((x + 1 : Nat) : Int) := wrap64 (by omega) (by omega)
      obtain ⟨p1, p2⟩ := two_of x5
      obtain ⟨q1, q2⟩ := two_of y5
      have hbb : (a.1 == a.1) = true := by cases a.1 <;> rfl
      simp -implicitDefEqProofs (disch := first | decide | assumption | omega | (simp -implicitDefEqProofs only [AM.RN]; first | done | omega) | fail) only [↓AM.R0, AM.R1, AM.R2, Nat.reduceAdd, Nat.reduceLeDiff, Nat.reduceEqDiff, Int.reduceToNat, Nat.reduceLT, ↓reduceIte, Int.reduceEq, Int.reduceLT, Int.reduceLE, e2, e3, e5, g0, g1, x1, x2, p1, p2, y1, y2, q1, q2, hbb]
      refine AM.trCall_of (sameKinds xl yl (z4 a (List.mem_of_getElem? ha))) ?_
      rintro r h3 ⟨rfl, rfl⟩
      simp -implicitDefEqProofs (disch := first | decide | assumption | omega | (simp -implicitDefEqProofs only [AM.RN]; first | done | omega) | fail) only [↓AM.R0, AM.R1, AM.R2, Nat.reduceAdd, Nat.reduceLeDiff, Nat.reduceEqDiff, Int.reduceToNat, Nat.reduceLT, ↓reduceIte, Int.reduceEq, Int.reduceLT, Int.reduceLE, e2, e3, e5, hw]
      exact ⟨p.types.length - (x + 1), by omega, x + 1, by omega, rfl⟩
    · have hx : x = p.types.length := by simp only [decide_eq_false_iff_not] at hb; omega
      clear hb
      simp -implicitDefEqProofs (disch := first | decide | assumption | omega | (simp -implicitDefEqProofs only [AM.RN]; first | done | omega) | fail) only [↓AM.R0, AM.R1, AM.R2, Nat.reduceAdd, Nat.reduceLeDiff, Nat.reduceEqDiff, Int.reduceToNat, Nat.reduceLT, ↓reduceIte, Int.reduceEq, Int.reduceLT, Int.reduceLE, e2, e3]
      clear e5
      refine AM.loopI_of (fun k e h3 => ∃ x : Nat, k + x = p.funcs.length ∧ e.val 2 = .ptr h.n 0 0 ∧ e.val 3 = .ptr (h.n + 1) 0 0 ∧ e.val 6 = .int .i64 x ∧ HFrame h2 h3 [] []) p.funcs.length ?_ ?_
      · refine ⟨0, by omega, ?_, ?_, ?_, HFrame.refl (by simp)⟩ <;> simp -implicitDefEqProofs (disch := first | decide | assumption | omega | (simp -implicitDefEqProofs only [AM.RN]; first | done | omega) | fail) only [↓AM.R0, AM.R1, AM.R2, Nat.reduceAdd, Nat.reduceLeDiff, Nat.reduceEqDiff, Int.reduceToNat, Nat.reduceLT, ↓reduceIte, Int.reduceEq, Int.reduceLT, Int.reduceLE, e2, e3] <;> rfl
      · clear e2 e3 hk hx e k x
        rintro k e h3 ⟨x, hk, e2, e3, e6, f⟩
        have G0 : h3.get h.n = _ := (f.get h.n (by omega) (by simp)).trans g0
        have G1 : h3.get (h.n + 1) = _ := (f.get (h.n + 1) (by omega) (by simp)).trans g1
        have n3 : h.n + 2 ≤ h3.n := by have := f.n; omega
        have k3 := HFrame.keepR f
        have RF3 := RFB.mono (fun _ _ q => FuncR.mono k3.1 k3.2 q) k3.1 k3.2
        have SF3 := SFB.mono (fun _ _ q => FuncR.mono k3.1 k3.2 q) k3.1 k3.2
        simp -implicitDefEqProofs (disch := first | decide | assumption | omega | (simp -implicitDefEqProofs only [AM.RN]; first | done | omega) | fail) only [↓AM.R0, AM.R1, AM.R2, Nat.reduceAdd, Nat.reduceLeDiff, Nat.reduceEqDiff, Int.reduceToNat, Nat.reduceLT, ↓reduceIte, Int.reduceEq, Int.reduceLT, Int.reduceLE, e2, e3, e6, l3, G0]
        refine AM.cI_bool (fun hb => ?_) (fun hb => ?_)
        · simp only [decide_eq_true_eq] at hb
          obtain ⟨a, ha⟩ : ∃ a, p.funcs[x]? = some a := ⟨_, List.getElem?_eq_getElem (by omega)⟩
          obtain ⟨zs, zr, zc, zi⟩ := z5 a (List.mem_of_getElem? ha)
          obtain ⟨j, g, off, vs, ro, row, x1, x2, x3, x4, x5, x6, sv, rv, cv, rfl, xs, xr, xc⟩ := SlR.atv RF3 ha
          obtain ⟨j2, gg2, off2, vs2, ro2, row2, y1, y2, y3, y4, y5, y6, sw, rw', cw, rfl, ys, yr, yc⟩ := SlR.atv SF3 ha
          have hw : IntKind.i64.wrap ((x : Int) + 1) = ((x + 1 : Nat) : Int) := wrap64 (by omega) (by omega)
          have d1 := SlIn.cellv xs
          have d2 := SlIn.cellv xr
          have d3 := SlR.cellv xc
          have d4 := SlIn.cellv ys
          have d5 := SlIn.cellv yr
          have d6 := SlR.cellv yc
          have b1 := SlIn.beqv xs
          have b2 := SlIn.beqv xr
          have b3 := SlR.beqv xc
          have b4 := SlIn.beqv ys
          have b5 := SlIn.beqv yr
          have b6 := SlR.beqv yc
          have lx := xc.len
          have ly := yc.len
          have jn1 : j ≠ h3.n := by omega
          have jn2 : j ≠ h3.n + 1 := by omega
          have jm1 : j2 ≠ h3.n := by omega
          have jm2 : j2 ≠ h3.n + 1 := by omega
          have bi : ∀ (k : IntKind) (n : Int), (AVal.int k n).beq (.int k n) = true := fun k n => by simp [AVal.beq]
          subst x1 y1
          simp -implicitDefEqProofs (disch := first | decide | assumption | omega | (simp -implicitDefEqProofs only [AM.RN]; first | done | omega) | fail) only [↓AM.R0, AM.R1, AM.R2, Nat.reduceAdd, Nat.reduceLeDiff, Nat.reduceEqDiff, Int.reduceToNat, Nat.reduceLT, ↓reduceIte, Int.reduceEq, Int.reduceLT, Int.reduceLE, e2, e3, e6, G0, G1, x2, x5, y2, y5, d1, d2, d3, d4, d5, d6, b1, b2, b3, b4, b5, b6, bi, AM.beq_sl, AM.beq_agg, AM.beqs_cons, AM.beqs_nil]
          obtain ⟨hC, hCe⟩ : ∃ hC, hC = (((h3.push (.cells 0 false [.int .i64 0, .nils, .nils, .nils])).push (.cells 0 false [.int .i64 0, .nils, .nils, .nils])).set h3.n (.cells 0 false [.int .i64 a.params, sv, rv, cv])).set (h3.n + 1) (.cells 0 false [.int .i64 a.params, sw, rw', cw]) := ⟨_, rfl⟩
          have fC : HFrame h3 hC [] [] := by
            rw [hCe]
            exact ((((HFrame.refl (by simp)).pushTmp _).pushTmp _).setTmp (Nat.le_refl _) _).setTmp (by omega) _
          have gc0 : hC.get h3.n = .cells 0 false [.int .i64 a.params, sv, rv, cv] := by rw [hCe, AHeap.get_set_ne _ _ (by omega)]; exact AHeap.get_set_same _ _ _
          have gc1 : hC.get (h3.n + 1) = .cells 0 false [.int .i64 a.params, sw, rw', cw] := by rw [hCe]; exact AHeap.get_set_same _ _ _
          have nC : hC.n = h3.n + 2 := by rw [hCe]; rfl
          rw [← hCe]
          have kC := HFrame.keepR fC
          have GC0 : hC.get h.n = _ := (fC.get h.n (by omega) (by simp)).trans G0
          have GC1 : hC.get (h.n + 1) = _ := (fC.get (h.n + 1) (by omega) (by simp)).trans G1
          refine AM.callI_of (sameKinds (xs.keep fC) (ys.keep fC) zs) ?_
          rintro r h4 ⟨rfl, rfl⟩
          simp -implicitDefEqProofs (disch := first | decide | assumption | omega | (simp -implicitDefEqProofs only [AM.RN]; first | done | omega) | fail) only [↓AM.R0, AM.R1, AM.R2, Nat.reduceAdd, Nat.reduceLeDiff, Nat.reduceEqDiff, Int.reduceToNat, Nat.reduceLT, ↓reduceIte, Int.reduceEq, Int.reduceLT, Int.reduceLE, gc0, gc1]
          refine AM.callI_of (sameKinds (xr.keep fC) (yr.keep fC) zr) ?_
          rintro r h5 ⟨rfl, rfl⟩
          simp -implicitDefEqProofs (disch := first | decide | assumption | omega | (simp -implicitDefEqProofs only [AM.RN]; first | done | omega) | fail) only [↓AM.R0, AM.R1, AM.R2, Nat.reduceAdd, Nat.reduceLeDiff, Nat.reduceEqDiff, Int.reduceToNat, Nat.reduceLT, ↓reduceIte, Int.reduceEq, Int.reduceLT, Int.reduceLE, gc0, gc1, lx, ly]
          refine AM.loopI_of (fun k e h6 => ∃ y : Nat, k + y = a.code.length ∧ e.val 2 = .ptr h.n 0 0 ∧ e.val 3 = .ptr (h.n + 1) 0 0 ∧ e.val 6 = .int .i64 x ∧ e.val 7 = .ptr h3.n 0 0 ∧ e.val 8 = .ptr (h3.n + 1) 0 0 ∧ e.val 9 = .int .i64 y ∧ HFrame h5 h6 [] []) a.code.length ?_ ?_
          · refine ⟨0, by omega, ?_, ?_, ?_, ?_, ?_, ?_, HFrame.refl (by simp)⟩ <;> simp -implicitDefEqProofs (disch := first | decide | assumption | omega | (simp -implicitDefEqProofs only [AM.RN]; first | done | omega) | fail) only [↓AM.R0, AM.R1, AM.R2, Nat.reduceAdd, Nat.reduceLeDiff, Nat.reduceEqDiff, Int.reduceToNat, Nat.reduceLT, ↓reduceIte, Int.reduceEq, Int.reduceLT, Int.reduceLE, e2, e3, e6] <;> rfl
          · clear e2 e3 e6 e
            rintro k2 e h6 ⟨y, hk2, e2, e3, e6, e7, e8, e9, f6⟩
            have G6 : h6.get h3.n = _ := (f6.get _ (by omega) (by simp)).trans gc0
            have G7 : h6.get (h3.n + 1) = _ := (f6.get _ (by omega) (by simp)).trans gc1
            have n6 := f6.n
            have k6 := HFrame.keepR (fC.trans f6)
            have xc6 := xc.mono (fun _ _ q => InsR.mono k6.1 k6.2 q) k6.1 k6.2
            have yc6 := yc.mono (fun _ _ q => InsR.mono k6.1 k6.2 q) k6.1 k6.2
            simp -implicitDefEqProofs (disch := first | decide | assumption | omega | (simp -implicitDefEqProofs only [AM.RN]; first | done | omega) | fail) only [↓AM.R0, AM.R1, AM.R2, Nat.reduceAdd, Nat.reduceLeDiff, Nat.reduceEqDiff, Int.reduceToNat, Nat.reduceLT, ↓reduceIte, Int.reduceEq, Int.reduceLT, Int.reduceLE, e2, e3, e6, e7, e8, e9, G6, G7, lx]
            refine AM.cI_bool (fun hb2 => ?_) (fun hb2 => ?_)
            · simp only [decide_eq_true_eq] at hb2
              obtain ⟨i, hi⟩ : ∃ i, a.code[y]? = some i := ⟨_, List.getElem?_eq_getElem (by omega)⟩
              obtain ⟨j3, g3, off3, vs3, ro3, row3, u1, u2, u3, u4, u5, u6, uR⟩ := SlR.atv xc6 hi
              obtain ⟨j4, g4, off4, vs4, ro4, row4, w1, w2, w3, w4, w5, w6, wR⟩ := SlR.atv yc6 hi
              have hw2 : IntKind.i64.wrap ((y : Int) + 1) = ((y + 1 : Nat) : Int) := wrap64 (by omega) (by omega)
              rw [u1] at G6
              rw [w1] at G7
              simp -implicitDefEqProofs (disch := first | decide | assumption | omega | (simp -implicitDefEqProofs only [AM.RN]; first | done | omega) | fail) only [↓AM.R0, AM.R1, AM.R2, Nat.reduceAdd, Nat.reduceLeDiff, Nat.reduceEqDiff, Int.reduceToNat, Nat.reduceLT, ↓reduceIte, Int.reduceEq, Int.reduceLT, Int.reduceLE, e2, e3, e6, e7, e8, e9, G6, G7, u2, u5, w2, w5]
              refine AM.trCall_of (sameIns uR wR (zi i (List.mem_of_getElem? hi))) ?_
              rintro r h7 ⟨rfl, f7⟩
              simp -implicitDefEqProofs (disch := first | decide | assumption | omega | (simp -implicitDefEqProofs only [AM.RN]; first | done | omega) | fail) only [↓AM.R0, AM.R1, AM.R2, Nat.reduceAdd, Nat.reduceLeDiff, Nat.reduceEqDiff, Int.reduceToNat, Nat.reduceLT, ↓reduceIte, Int.reduceEq, Int.reduceLT, Int.reduceLE, e2, e3, e6, e7, e8, e9, hw2]
              exact ⟨a.code.length - (y + 1), by omega, y + 1, by omega, rfl, f6.trans f7⟩
            · simp -implicitDefEqProofs (disch := first | decide | assumption | omega | (simp -implicitDefEqProofs only [AM.RN]; first | done | omega) | fail) only [↓AM.R0, AM.R1, AM.R2, Nat.reduceAdd, Nat.reduceLeDiff, Nat.reduceEqDiff, Int.reduceToNat, Nat.reduceLT, ↓reduceIte, Int.reduceEq, Int.reduceLT, Int.reduceLE, e2, e3, e6, hw]
              exact ⟨p.funcs.length - (x + 1), by omega, x + 1, by omega, rfl, f.trans (fC.trans f6)⟩
        · simp -implicitDefEqProofs (disch := first | decide | assumption | omega | (simp -implicitDefEqProofs only [AM.RN]; first | done | omega) | fail) only [↓AM.R0, AM.R1, AM.R2, Nat.reduceAdd, Nat.reduceLeDiff, Nat.reduceEqDiff, Int.reduceToNat, Nat.reduceLT, ↓reduceIte, Int.reduceEq, Int.reduceLT, Int.reduceLE]
          subst hQ
          exact ⟨rfl, f2.trans f⟩
end Go.Proofs.Ytfagngiceofoeaa.Cd

namespace Go.Proofs.Ytfagngiceofoeaa.Cd
open Go Go.AM Go.Proofs.Ytfagngiceofoeaa.AmGC
attribute [local irreducible] AM.wp AM.wpIs AM.wpTr AM.opI AM.gI AM.cI AM.trI AM.callI AM.fnI AM.trG AM.trOp AM.trCall AM.seqC AM.loopI
set_option maxRecDepth 100000
set_option linter.unusedVariables false
set_option linter.unusedSimpArgs false

def tB (t : Bool × List Int) : Nat := 20 + 10 * t.2.length
def iB (i : PIns) : Nat := 60 + 10 * i.list.length
def fB (f : PFunc) : Nat := 40 + 10 * f.slots.length + 10 * f.results.length + (f.code.map iB).sum
theorem RAt.nil {h : AHeap} {w : Nat} (g : h.get w = .cells 0 false [.nils, .int .i64 0]) (hw : w < h.n) : RAt h w ([], 0) 0 [w] := ⟨[], ⟨.nils, [], g, hw, SlOf.nil, by simp, rfl⟩, fun _ => rfl, by simp⟩
theorem RAt.wk {h : AHeap} {w : Nat} {s : WS} {B B' : Nat} {F : List Nat} (H : RAt h w s B F) (h1 : B ≤ B') : RAt h w s B' F := by
  obtain ⟨o, a, b, c⟩ := H; exact ⟨o, a, b, by omega⟩
theorem RAt.setN {h : AHeap} {w : Nat} {s : WS} {B : Nat} {F : List Nat} (H : RAt h w s B F) {i : Nat} (hi : i ∉ F) (o : AObj) : RAt (h.set i o) w s B F :=
  H.frame (by simp) fun j hj => AHeap.get_set_ne _ _ (by intro e; subst e; exact hi hj)

set_option maxHeartbeats 4000000 in
theorem refEncode {h : AHeap} {p : PProg} {row : List AVal} (R : ProgR h p row) (ok : p.Ok) (hsz : 10 * p.types.length + (p.types.map tB).sum + (p.funcs.map fB).sum + 10 * p.globals.length + 200 < 1073741824) :
    CallP AP 11 [.agg row] h fun r h' => ∃ ov Fo, HFrame h h' [] Fo ∧
      (if (wprog p).2 = 0 ∧ (wprog p).1.length ≤ 16384 then r = .tup [ov, .int .i64 0] ∧ SlOf h' 1 encB ov (wprog p).1 Fo
       else r = .tup [.nils, .int .i64 (if (wprog p).2 = 0 then 2 else (wprog p).2)]) := by
  obtain ⟨tv, gv, fv, rfl, RT, RG, RF⟩ := R
  refine callP (rfl : Tr.get AP 11 = some A11) ?_
  generalize hQ : (fun (r : AVal) (h' : AHeap) => _) = Q
  have c1 := SlR.cellv RT
  have c2 := SlIn.cellv RG
  have c3 := SlR.cellv RF
  have lT := RT.len
  have lF := RF.len
  simp -implicitDefEqProofs (disch := first | decide | assumption | omega | (simp -implicitDefEqProofs only [AM.RN]; first | done | omega) | fail) only [↓AM.R0, AM.R1, AM.R2, Nat.reduceAdd, Nat.reduceLeDiff, Nat.reduceEqDiff, Int.reduceToNat, Nat.reduceLT, ↓reduceIte, Int.reduceEq, Int.reduceLT, Int.reduceLE, c1, c2, c3]
  obtain ⟨h0, hh0⟩ : ∃ h0, h0 = h.push (.cells 0 false [tv, gv, fv]) := ⟨_, rfl⟩
  have hn0 : h0.n = h.n + 1 := by rw [hh0]; rfl
  have hm : ∀ j, j < h.n → h0.get j = h.get j := fun j hj => by rw [hh0]; exact AHeap.get_push_ne _ _ (by omega)
  have RT0 := RT.mono (fun _ _ q => TypeR.mono (by omega) hm q) (by omega) hm
  have RG0 := RG.mono (by omega : h.n ≤ h0.n) hm
  have RF0 := RF.mono (fun _ _ q => FuncR.mono (by omega) hm q) (by omega) hm
  have g0 : h0.get h.n = .cells 0 false [tv, gv, fv] := by rw [hh0]; exact AHeap.get_push_same _ _
  have fW : HFrame h0 (h0.push (.cells 0 false [.nils, .int .i64 0])) [] [h0.n] := ⟨by simp, rfl, fun j hj _ => AHeap.get_push_ne _ _ (by omega), fun j hj => .inr (by simp at hj; omega), fun j hj => by simp at hj; simp; omega⟩
  have HW : RAt (h0.push (.cells 0 false [.nils, .int .i64 0])) h0.n ([], 0) 0 [h0.n] := RAt.nil (AHeap.get_push_same _ _) (by simp)
  rw [← hh0, ← hn0]
  generalize h0.push (.cells 0 false [.nils, .int .i64 0]) = hW at *
  have gW := (fW.get h.n (by omega) (by simp)).trans g0
  have nW := fW.n
  simp -implicitDefEqProofs (disch := first | decide | assumption | omega | (simp -implicitDefEqProofs only [AM.RN]; first | done | omega) | fail) only [↓AM.R0, AM.R1, AM.R2, Nat.reduceAdd, Nat.reduceLeDiff, Nat.reduceEqDiff, Int.reduceToNat, Nat.reduceLT, ↓reduceIte, Int.reduceEq, Int.reduceLT, Int.reduceLE, gW, lT]
  have hTl : p.types.length ≤ (p.types.map tB).sum := len_sum tB (fun a => by unfold tB; omega) _
  have hFl : p.funcs.length ≤ (p.funcs.map fB).sum := len_sum fB (fun a => by unfold fB; omega) _
  refine AM.callI_of (refCount HW p.types.length 32 (by omega) (by omega) (by omega) (by omega)) ?_
  rintro r h1 ⟨F1, f1, q1⟩
  have f01 := fW.trans f1
  simp -implicitDefEqProofs (disch := first | decide | assumption | omega | (simp -implicitDefEqProofs only [AM.RN]; first | done | omega) | fail) only [↓AM.R0, AM.R1, AM.R2, Nat.reduceAdd, Nat.reduceLeDiff, Nat.reduceEqDiff, Int.reduceToNat, Nat.reduceLT, ↓reduceIte, Int.reduceEq, Int.reduceLT, Int.reduceLE]
  obtain ⟨W0, hW0⟩ : ∃ W0, W0 = wcount ([], 0) p.types.length 32 := ⟨_, rfl⟩
  rw [← hW0] at q1
  refine AM.loopI_of (fun k e h' => ∃ (i : Nat) (F' : List Nat), k + i = p.types.length ∧ e.val 1 = .ptr h.n 0 0 ∧ e.val 4 = .ptr h0.n 0 0 ∧ e.val 5 = .int .i64 i ∧ HFrame h0 h' [] F' ∧
    RAt h' h0.n ((p.types.take i).foldl wtype W0) (10 + ((p.types.take i).map tB).sum) F') p.types.length ?_ ?_
  · refine ⟨0, F1, by simp, ?_, ?_, ?_, f01, q1⟩ <;> simp -implicitDefEqProofs (disch := first | decide | assumption | omega | (simp -implicitDefEqProofs only [AM.RN]; first | done | omega) | fail) only [↓AM.R0, AM.R1, AM.R2, Nat.reduceAdd, Nat.reduceLeDiff, Nat.reduceEqDiff, Int.reduceToNat, Nat.reduceLT, ↓reduceIte, Int.reduceEq, Int.reduceLT, Int.reduceLE] <;> rfl
  · rintro k e h' ⟨i, F', hk, e1, e4, e5, f, q⟩
    have gp := (f.get h.n (by omega) (by simp)).trans g0
    have np := f.n
    have hst := sum_take tB p.types i
    simp -implicitDefEqProofs (disch := first | decide | assumption | omega | (simp -implicitDefEqProofs only [AM.RN]; first | done | omega) | fail) only [↓AM.R0, AM.R1, AM.R2, Nat.reduceAdd, Nat.reduceLeDiff, Nat.reduceEqDiff, Int.reduceToNat, Nat.reduceLT, ↓reduceIte, Int.reduceEq, Int.reduceLT, Int.reduceLE, e1, e4, e5, gp, lT]
    refine AM.cI_bool (fun hb => ?_) (fun hb => ?_)
    · simp only [decide_eq_true_eq] at hb
      obtain ⟨t, ht⟩ : ∃ t, p.types[i]? = some t := ⟨_, List.getElem?_eq_getElem (by omega)⟩
      have esum := sum_mem tB ht
      obtain ⟨j, g, off, vs, ro, row, x1, x2, x3, x4, x5, x6, fl, rfl, xl⟩ := SlR.atv RT0 ht
      obtain ⟨p1, p2⟩ := two_of x5
      have hw : IntKind.i64.wrap ((i : Int) + 1) = ((i + 1 : Nat) : Int) := wrap64 (by omega) (by omega)
      subst x1
      have xj := (f.get j x3 (by simp)).trans x2
      simp -implicitDefEqProofs (disch := first | decide | assumption | omega | (simp -implicitDefEqProofs only [AM.RN]; first | done | omega) | fail) only [↓AM.R0, AM.R1, AM.R2, Nat.reduceAdd, Nat.reduceLeDiff, Nat.reduceEqDiff, Int.reduceToNat, Nat.reduceLT, ↓reduceIte, Int.reduceEq, Int.reduceLT, Int.reduceLE, e1, e4, e5, gp, xj, p1]
      obtain ⟨b, ks⟩ := t
      have xl : SlIn h0 1 encK fl ks := xl
      have okt : ∀ x, x ∈ ks → x ≤ mx := ok.types (b, ks) (List.mem_of_getElem? ht)
      have etz : tB (b, ks) = 20 + 10 * ks.length := rfl
      cases b
      all_goals
        simp -implicitDefEqProofs (disch := first | decide | assumption | omega | (simp -implicitDefEqProofs only [AM.RN]; first | done | omega) | fail) only [↓AM.R0, AM.R1, AM.R2, Nat.reduceAdd, Nat.reduceLeDiff, Nat.reduceEqDiff, Int.reduceToNat, Nat.reduceLT, ↓reduceIte, Int.reduceEq, Int.reduceLT, Int.reduceLE, e1, e4, e5, gp]
        refine AM.callI_of (refNumber q _ (by omega) (by omega)) ?_
        rintro r h3 ⟨F3, f3, q3⟩
        have f03 := f.trans f3
        have gp3 := (f03.get h.n (by omega) (by simp)).trans g0
        have np3 := f03.n
        have xj3 := (f03.get j x3 (by simp)).trans x2
        simp -implicitDefEqProofs (disch := first | decide | assumption | omega | (simp -implicitDefEqProofs only [AM.RN]; first | done | omega) | fail) only [↓AM.R0, AM.R1, AM.R2, Nat.reduceAdd, Nat.reduceLeDiff, Nat.reduceEqDiff, Int.reduceToNat, Nat.reduceLT, ↓reduceIte, Int.reduceEq, Int.reduceLT, Int.reduceLE, e1, e4, e5, gp3, xj3, p2]
        refine AM.callI_of (refKinds (l := ks) f03 q3 xl okt 16 (by omega) (by omega)) ?_
        rintro r h4 ⟨F4, f4, q4⟩
        simp -implicitDefEqProofs (disch := first | decide | assumption | omega | (simp -implicitDefEqProofs only [AM.RN]; first | done | omega) | fail) only [↓AM.R0, AM.R1, AM.R2, Nat.reduceAdd, Nat.reduceLeDiff, Nat.reduceEqDiff, Int.reduceToNat, Nat.reduceLT, ↓reduceIte, Int.reduceEq, Int.reduceLT, Int.reduceLE, e1, e4, e5, hw]
        refine ⟨p.types.length - (i + 1), by omega, i + 1, F4, by omega, rfl, f4, ?_⟩
        rw [take_succ_of ht, List.foldl_append, List.map_append, List.sum_append]
        exact q4.wk (by simp; omega)
    · have hi : i = p.types.length := by simp only [decide_eq_false_iff_not] at hb; omega
      subst hi
      rw [List.take_length] at q
      clear hb hst
      simp -implicitDefEqProofs (disch := first | decide | assumption | omega | (simp -implicitDefEqProofs only [AM.RN]; first | done | omega) | fail) only [↓AM.R0, AM.R1, AM.R2, Nat.reduceAdd, Nat.reduceLeDiff, Nat.reduceEqDiff, Int.reduceToNat, Nat.reduceLT, ↓reduceIte, Int.reduceEq, Int.reduceLT, Int.reduceLE, e1, e4, gp]
      refine AM.callI_of (refKinds f q RG0 ok.globals 32 (by omega) (by omega)) ?_
      rintro r h2 ⟨F2, f2, q2⟩
      have gp2 := (f2.get h.n (by omega) (by simp)).trans g0
      have np2 := f2.n
      simp -implicitDefEqProofs (disch := first | decide | assumption | omega | (simp -implicitDefEqProofs only [AM.RN]; first | done | omega) | fail) only [↓AM.R0, AM.R1, AM.R2, Nat.reduceAdd, Nat.reduceLeDiff, Nat.reduceEqDiff, Int.reduceToNat, Nat.reduceLT, ↓reduceIte, Int.reduceEq, Int.reduceLT, Int.reduceLE, e1, e4, gp2, lF]
      refine AM.callI_of (refCount q2 p.funcs.length 32 (by omega) (by omega) (by omega) (by omega)) ?_
      rintro r h3 ⟨F3, f3, q3⟩
      have f03 := f2.trans f3
      simp -implicitDefEqProofs (disch := first | decide | assumption | omega | (simp -implicitDefEqProofs only [AM.RN]; first | done | omega) | fail) only [↓AM.R0, AM.R1, AM.R2, Nat.reduceAdd, Nat.reduceLeDiff, Nat.reduceEqDiff, Int.reduceToNat, Nat.reduceLT, ↓reduceIte, Int.reduceEq, Int.reduceLT, Int.reduceLE, e1, e4]
      obtain ⟨W3, hW3⟩ : ∃ W3, W3 = wcount (wkinds (p.types.foldl wtype W0) p.globals 32) p.funcs.length 32 := ⟨_, rfl⟩
      rw [← hW3] at q3
      have q3 := q3.wk (B' := 40 + (p.types.map tB).sum + 10 * p.globals.length) (by omega)
      refine AM.loopI_of (fun k e h' => ∃ (i : Nat) (F' : List Nat), k + i = p.funcs.length ∧ e.val 1 = .ptr h.n 0 0 ∧ e.val 4 = .ptr h0.n 0 0 ∧ e.val 6 = .int .i64 i ∧ HFrame h0 h' [] F' ∧
        RAt h' h0.n ((p.funcs.take i).foldl wfunc W3) (40 + (p.types.map tB).sum + 10 * p.globals.length + ((p.funcs.take i).map fB).sum) F') p.funcs.length ?_ ?_
      · refine ⟨0, F3, by simp, ?_, ?_, ?_, f03, q3⟩ <;> simp -implicitDefEqProofs (disch := first | decide | assumption | omega | (simp -implicitDefEqProofs only [AM.RN]; first | done | omega) | fail) only [↓AM.R0, AM.R1, AM.R2, Nat.reduceAdd, Nat.reduceLeDiff, Nat.reduceEqDiff, Int.reduceToNat, Nat.reduceLT, ↓reduceIte, Int.reduceEq, Int.reduceLT, Int.reduceLE, e1, e4] <;> rfl
      · clear e1 e4 e5 f q f2 q2 f3 q3 f03 gp gp2 np np2 hk e k
        rintro k e hq ⟨i, F', hk, e1, e4, e6, f, q⟩
        have gp := (f.get h.n (by omega) (by simp)).trans g0
        have np := f.n
        have hst := sum_take fB p.funcs i
        simp -implicitDefEqProofs (disch := first | decide | assumption | omega | (simp -implicitDefEqProofs only [AM.RN]; first | done | omega) | fail) only [↓AM.R0, AM.R1, AM.R2, Nat.reduceAdd, Nat.reduceLeDiff, Nat.reduceEqDiff, Int.reduceToNat, Nat.reduceLT, ↓reduceIte, Int.reduceEq, Int.reduceLT, Int.reduceLE, e1, e4, e6, gp, lF]
        refine AM.cI_bool (fun hb => ?_) (fun hb => ?_)
        · simp only [decide_eq_true_eq] at hb
          obtain ⟨t, ht⟩ : ∃ t, p.funcs[i]? = some t := ⟨_, List.getElem?_eq_getElem (by omega)⟩
          have esum := sum_mem fB ht
          obtain ⟨j, g, off, vs, ro, row, x1, x2, x3, x4, x5, x6, sv, rv, cv, rfl, ys, yr, yc⟩ := SlR.atv RF0 ht
          have k1 := SlIn.cellv ys
          have k2 := SlIn.cellv yr
          have k3 := SlR.cellv yc
          have lc := yc.len
          have hw : IntKind.i64.wrap ((i : Int) + 1) = ((i + 1 : Nat) : Int) := wrap64 (by omega) (by omega)
          have ez : fB t = 40 + 10 * t.slots.length + 10 * t.results.length + (t.code.map iB).sum := rfl
          have okt := ok.funcs t (List.mem_of_getElem? ht)
          have hcl := len_sum iB (fun a => by unfold iB; omega) t.code
          subst x1
          have xj := (f.get j x3 (by simp)).trans x2
          simp -implicitDefEqProofs (disch := first | decide | assumption | omega | (simp -implicitDefEqProofs only [AM.RN]; first | done | omega) | fail) only [↓AM.R0, AM.R1, AM.R2, Nat.reduceAdd, Nat.reduceLeDiff, Nat.reduceEqDiff, Int.reduceToNat, Nat.reduceLT, ↓reduceIte, Int.reduceEq, Int.reduceLT, Int.reduceLE, e1, e4, e6, gp, xj, x5, k1, k2, k3]
          obtain ⟨S, hS⟩ : ∃ S, S = (p.funcs.take i).foldl wfunc W3 := ⟨_, rfl⟩
          rw [← hS] at q
          have fA := (f.pushTmp (.cells 0 false [.int .i64 0, .nils, .nils, .nils])).setTmp (i := hq.n) np (.cells 0 false [.int .i64 t.params, sv, rv, cv])
          have hnF : hq.n ∉ F' := fun hm => Nat.lt_irrefl _ (q.lt _ hm)
          have qA := (q.tmp (.cells 0 false [.int .i64 0, .nils, .nils, .nils])).setN hnF (.cells 0 false [.int .i64 t.params, sv, rv, cv])
          have gA : ((hq.push (.cells 0 false [.int .i64 0, .nils, .nils, .nils])).set hq.n (.cells 0 false [.int .i64 t.params, sv, rv, cv])).get hq.n = .cells 0 false [.int .i64 t.params, sv, rv, cv] := AHeap.get_set_same _ _ _
          have nA : hq.n < ((hq.push (.cells 0 false [.int .i64 0, .nils, .nils, .nils])).set hq.n (.cells 0 false [.int .i64 t.params, sv, rv, cv])).n := by simp
          generalize (hq.push (.cells 0 false [.int .i64 0, .nils, .nils, .nils])).set hq.n (.cells 0 false [.int .i64 t.params, sv, rv, cv]) = hA at *
          refine AM.callI_of (refNumber qA t.params okt.params (by omega)) ?_
          rintro r h3 ⟨F3, f3, q3⟩
          obtain ⟨g3, n3⟩ := loc f3 gA nA hnF
          have hnF3 := f3.out hnF nA
          have fa3 := fA.trans f3
          simp -implicitDefEqProofs (disch := first | decide | assumption | omega | (simp -implicitDefEqProofs only [AM.RN]; first | done | omega) | fail) only [↓AM.R0, AM.R1, AM.R2, Nat.reduceAdd, Nat.reduceLeDiff, Nat.reduceEqDiff, Int.reduceToNat, Nat.reduceLT, ↓reduceIte, Int.reduceEq, Int.reduceLT, Int.reduceLE, e1, e4, e6, g3]
          have hAll := qA.lt
          have fAA : HFrame hA hA F' F' := HFrame.refl hAll
          have stay : ∀ {h'' : AHeap} {F'' : List Nat}, HFrame hA h'' F' F'' → h0.n ≤ h''.n ∧ ∀ j, j < h0.n → h''.get j = h0.get j := fun {h''} {F''} f'' => by
            have hn1 := fA.n
            refine ⟨Nat.le_trans hn1 f''.n, fun j hj => (f''.get j (by omega) fun hm => ?_).trans (fA.get j hj (by simp))⟩
            rcases f.new j hm with e | e
            · cases e
            · omega
          have fAh : ∀ {h'' : AHeap} {F'' : List Nat}, HFrame hA h'' F' F'' → HFrame h0 h'' [] F'' := fun f'' => fA.trans f''
          refine AM.callI_of (refKindsG f3 q3 (fun f'' => ys.mono (stay f'').1 (stay f'').2) okt.slots 32 (by omega) (by omega)) ?_
          rintro r h4 ⟨F4, f4, q4⟩
          obtain ⟨g4, n4⟩ := loc f4 gA nA hnF
          simp -implicitDefEqProofs (disch := first | decide | assumption | omega | (simp -implicitDefEqProofs only [AM.RN]; first | done | omega) | fail) only [↓AM.R0, AM.R1, AM.R2, Nat.reduceAdd, Nat.reduceLeDiff, Nat.reduceEqDiff, Int.reduceToNat, Nat.reduceLT, ↓reduceIte, Int.reduceEq, Int.reduceLT, Int.reduceLE, e1, e4, e6, g4]
          refine AM.callI_of (refKindsG f4 q4 (fun f'' => yr.mono (stay f'').1 (stay f'').2) okt.results 32 (by omega) (by omega)) ?_
          rintro r h5 ⟨F5, f5, q5⟩
          obtain ⟨g5, n5⟩ := loc f5 gA nA hnF
          simp -implicitDefEqProofs (disch := first | decide | assumption | omega | (simp -implicitDefEqProofs only [AM.RN]; first | done | omega) | fail) only [↓AM.R0, AM.R1, AM.R2, Nat.reduceAdd, Nat.reduceLeDiff, Nat.reduceEqDiff, Int.reduceToNat, Nat.reduceLT, ↓reduceIte, Int.reduceEq, Int.reduceLT, Int.reduceLE, e1, e4, e6, g5, lc]
          refine AM.callI_of (refCount q5 t.code.length 256 (by omega) (by omega) (by omega) (by omega)) ?_
          rintro r h6 ⟨F6, f6, q6⟩
          have f06 := f5.trans f6
          simp -implicitDefEqProofs (disch := first | decide | assumption | omega | (simp -implicitDefEqProofs only [AM.RN]; first | done | omega) | fail) only [↓AM.R0, AM.R1, AM.R2, Nat.reduceAdd, Nat.reduceLeDiff, Nat.reduceEqDiff, Int.reduceToNat, Nat.reduceLT, ↓reduceIte, Int.reduceEq, Int.reduceLT, Int.reduceLE, e1, e4, e6]
          have q6' : RAt h6 h0.n (hdf S t) (80 + (p.types.map tB).sum + 10 * p.globals.length + ((p.funcs.take i).map fB).sum + 10 * t.slots.length + 10 * t.results.length) F6 := q6.wk (by omega)
          refine AM.loopI_of (fun k e h' => ∃ (y : Nat) (F7 : List Nat), k + y = t.code.length ∧ e.val 1 = .ptr h.n 0 0 ∧ e.val 4 = .ptr h0.n 0 0 ∧ e.val 6 = .int .i64 i ∧ e.val 7 = .ptr hq.n 0 0 ∧ e.val 8 = .int .i64 y ∧ HFrame hA h' F' F7 ∧
            RAt h' h0.n ((t.code.take y).foldl winsP (hdf S t)) (80 + (p.types.map tB).sum + 10 * p.globals.length + ((p.funcs.take i).map fB).sum + 10 * t.slots.length + 10 * t.results.length + ((t.code.take y).map iB).sum) F7) t.code.length ?_ ?_
          · refine ⟨0, F6, by simp, ?_, ?_, ?_, ?_, ?_, f06, q6'⟩ <;> simp -implicitDefEqProofs (disch := first | decide | assumption | omega | (simp -implicitDefEqProofs only [AM.RN]; first | done | omega) | fail) only [↓AM.R0, AM.R1, AM.R2, Nat.reduceAdd, Nat.reduceLeDiff, Nat.reduceEqDiff, Int.reduceToNat, Nat.reduceLT, ↓reduceIte, Int.reduceEq, Int.reduceLT, Int.reduceLE, e1, e4, e6] <;> rfl
          · clear e1 e4 e6 e
            rintro k2 e h7 ⟨y, F7, hk2, e1, e4, e6, e7, e8, f7, q7⟩
            obtain ⟨g7, n7⟩ := loc f7 gA nA hnF
            have himt := okt.code
            simp -implicitDefEqProofs (disch := first | decide | assumption | omega | (simp -implicitDefEqProofs only [AM.RN]; first | done | omega) | fail) only [↓AM.R0, AM.R1, AM.R2, Nat.reduceAdd, Nat.reduceLeDiff, Nat.reduceEqDiff, Int.reduceToNat, Nat.reduceLT, ↓reduceIte, Int.reduceEq, Int.reduceLT, Int.reduceLE, e1, e4, e6, e7, e8, g7, lc]
            have hst2 := sum_take iB t.code y
            refine AM.cI_bool (fun hb2 => ?_) (fun hb2 => ?_)
            · simp only [decide_eq_true_eq] at hb2
              obtain ⟨z, hz⟩ : ∃ z, t.code[y]? = some z := ⟨_, List.getElem?_eq_getElem (by omega)⟩
              have esum2 := sum_mem iB hz
              obtain ⟨j3, g3', off3, vs3, ro3, row3, u1, u2, u3, u4, u5, u6, uR⟩ := SlR.atv yc hz
              have hw2 : IntKind.i64.wrap ((y : Int) + 1) = ((y + 1 : Nat) : Int) := wrap64 (by omega) (by omega)
              have ez2 : iB z = 60 + 10 * z.list.length := rfl
              rw [u1] at g7
              have uj := ((stay f7).2 j3 u3).trans u2
              have uj3 : j3 < h7.n := Nat.lt_of_lt_of_le u3 (stay f7).1
              simp -implicitDefEqProofs (disch := first | decide | assumption | omega | (simp -implicitDefEqProofs only [AM.RN]; first | done | omega) | fail) only [↓AM.R0, AM.R1, AM.R2, Nat.reduceAdd, Nat.reduceLeDiff, Nat.reduceEqDiff, Int.reduceToNat, Nat.reduceLT, ↓reduceIte, Int.reduceEq, Int.reduceLT, Int.reduceLE, e1, e4, e6, e7, e8, g7, uj, u5]
              refine AM.callI_of (refInsG f7 q7 (fun f'' => InsR.mono (stay f'').1 (stay f'').2 uR) (himt z (List.mem_of_getElem? hz)) (by omega)) ?_
              rintro r h8 ⟨F8, f8, q8⟩
              simp -implicitDefEqProofs (disch := first | decide | assumption | omega | (simp -implicitDefEqProofs only [AM.RN]; first | done | omega) | fail) only [↓AM.R0, AM.R1, AM.R2, Nat.reduceAdd, Nat.reduceLeDiff, Nat.reduceEqDiff, Int.reduceToNat, Nat.reduceLT, ↓reduceIte, Int.reduceEq, Int.reduceLT, Int.reduceLE, e1, e4, e6, e7, e8, hw2]
              refine ⟨t.code.length - (y + 1), by omega, y + 1, F8, by omega, rfl, f8, ?_⟩
              rw [take_succ_of hz, List.foldl_append, List.map_append, List.sum_append]
              exact q8.wk (by simp; omega)
            · have hy : y = t.code.length := by simp only [decide_eq_false_iff_not] at hb2; omega
              subst hy
              rw [List.take_length] at q7
              simp -implicitDefEqProofs (disch := first | decide | assumption | omega | (simp -implicitDefEqProofs only [AM.RN]; first | done | omega) | fail) only [↓AM.R0, AM.R1, AM.R2, Nat.reduceAdd, Nat.reduceLeDiff, Nat.reduceEqDiff, Int.reduceToNat, Nat.reduceLT, ↓reduceIte, Int.reduceEq, Int.reduceLT, Int.reduceLE, e1, e4, e6, hw]
              refine ⟨p.funcs.length - (i + 1), by omega, i + 1, F7, by omega, rfl, fAh f7, ?_⟩
              rw [take_succ_of ht, List.foldl_append, ← hS, List.map_append, List.sum_append]
              exact q7.wk (by simp; omega)
        · have hi : i = p.funcs.length := by simp only [decide_eq_false_iff_not] at hb; omega
          subst hi
          rw [List.take_length] at q
          have hP : p.funcs.foldl wfunc W3 = wprog p := by rw [hW3, hW0]; rfl
          rw [hP] at q
          have flt := q.lt
          obtain ⟨out, q, hout, hBl⟩ := q
          obtain ⟨ov, Fo, ho, hlt, hs, hwo, rfl⟩ := q
          have lo := hs.len
          clear hb hst
          simp -implicitDefEqProofs (disch := first | decide | assumption | omega | (simp -implicitDefEqProofs only [AM.RN]; first | done | omega) | fail) only [↓AM.R0, AM.R1, AM.R2, Nat.reduceAdd, Nat.reduceLeDiff, Nat.reduceEqDiff, Int.reduceToNat, Nat.reduceLT, ↓reduceIte, Int.reduceEq, Int.reduceLT, Int.reduceLE, e1, e4, ho, lo]
          have fh : ∀ G, (∀ j, j ∈ G → j ∈ Fo) → HFrame h hq [] G := fun G hG => ⟨by omega, by rw [f.g, hh0]; rfl, fun j hj _ => (f.get j (by omega) (by simp)).trans (hm j hj), fun j hj => by
              rcases f.new j (List.mem_cons_of_mem _ (hG j hj)) with e | e
              · cases e
              · exact .inr (by omega), fun j hj => flt j (List.mem_cons_of_mem _ (hG j hj))⟩
          refine AM.gI_bool (fun hc => ?_) (fun hc => ?_)
          · simp -implicitDefEqProofs (disch := first | decide | assumption | omega | (simp -implicitDefEqProofs only [AM.RN]; first | done | omega) | fail) only [↓AM.R0, AM.R1, AM.R2, Nat.reduceAdd, Nat.reduceLeDiff, Nat.reduceEqDiff, Int.reduceToNat, Nat.reduceLT, ↓reduceIte, Int.reduceEq, Int.reduceLT, Int.reduceLE, e4, ho, lo, hc]
            simp only [decide_eq_true_eq] at hc
            have hout := hout hc
            refine AM.cI_bool (fun hd => ?_) (fun hd => ?_)
            · simp only [decide_eq_true_eq] at hd
              simp -implicitDefEqProofs (disch := first | decide | assumption | omega | (simp -implicitDefEqProofs only [AM.RN]; first | done | omega) | fail) only [↓AM.R0, AM.R1, AM.R2, Nat.reduceAdd, Nat.reduceLeDiff, Nat.reduceEqDiff, Int.reduceToNat, Nat.reduceLT, ↓reduceIte, Int.reduceEq, Int.reduceLT, Int.reduceLE, e4, ho, hc]
              subst hQ
              refine ⟨.nils, [], (fh [] (by simp)).setTmp (by omega) _, ?_⟩
              rw [← hout, if_neg (by omega), if_pos hc]
            · simp only [decide_eq_false_iff_not] at hd
              simp -implicitDefEqProofs (disch := first | decide | assumption | omega | (simp -implicitDefEqProofs only [AM.RN]; first | done | omega) | fail) only [↓AM.R0, AM.R1, AM.R2, Nat.reduceAdd, Nat.reduceLeDiff, Nat.reduceEqDiff, Int.reduceToNat, Nat.reduceLT, ↓reduceIte, Int.reduceEq, Int.reduceLT, Int.reduceLE, e4, ho, hc]
              subst hQ
              refine ⟨ov, Fo, fh Fo (fun j h => h), ?_⟩
              rw [← hout, if_pos ⟨hc, by omega⟩]
              exact ⟨rfl, hs⟩
          · simp -implicitDefEqProofs (disch := first | decide | assumption | omega | (simp -implicitDefEqProofs only [AM.RN]; first | done | omega) | fail) only [↓AM.R0, AM.R1, AM.R2, Nat.reduceAdd, Nat.reduceLeDiff, Nat.reduceEqDiff, Int.reduceToNat, Nat.reduceLT, ↓reduceIte, Int.reduceEq, Int.reduceLT, Int.reduceLE, e4, ho, lo, hc]
            simp only [decide_eq_false_iff_not] at hc
            subst hQ
            refine ⟨.nils, [], fh [] (by simp), ?_⟩
            rw [if_neg (by intro h; exact hc h.1), if_neg hc]
end Go.Proofs.Ytfagngiceofoeaa.Cd

namespace Go.Proofs.Ytfagngiceofoeaa.Cd
open Go Go.AM Go.Proofs.Ytfagngiceofoeaa.AmGC
attribute [local irreducible] AM.wp AM.wpIs AM.wpTr AM.opI AM.gI AM.cI AM.trI AM.callI AM.fnI AM.trG AM.trOp AM.trCall AM.seqC AM.loopI
set_option maxRecDepth 100000
set_option linter.unusedVariables false
set_option linter.unusedSimpArgs false

theorem asBytes_map (l : List Int) : asBytes (l.map (AVal.int .u8)) = some (l.map fun n => n.toNat.toUInt8) := by
  induction l with
  | nil => rfl
  | cons a l ih => simp only [List.map_cons, asBytes, ih, Option.map_some]
theorem SlIn.b2s {h : AHeap} {v : AVal} {l : List Int} (s : SlIn h 1 encB v l) : b2sV h v = some (.str ⟨(l.map fun n => n.toNat.toUInt8).toArray⟩, h) := by
  rcases s with s | ⟨rfl, id, off, rfl, _⟩
  · rcases s with ⟨rfl, rfl⟩ | ⟨id, g, off, vs, ro, rfl, b, c, d, e⟩
    · rfl
    · by_cases h0 : l.length = 0
      · have : l = [] := List.eq_nil_of_length_eq_zero h0
        subst this
        rfl
      · have hfm : l.flatMap encB = l.map (AVal.int .u8) := by
          clear e d h0
          induction l with
          | nil => rfl
          | cons a l ih => simp only [List.flatMap_cons, List.map_cons, ih]; rfl
        have hrd : h.rd id g off l.length = some (l.map (AVal.int .u8)) := by
          simp only [AHeap.rd, b]
          rw [if_pos ⟨trivial, by omega⟩, ← hfm, ← e, Nat.mul_one]
        simp only [b2sV, if_neg h0, c, if_true, hrd, Option.bind_some, asBytes_map, Option.map_some]
  · rfl

theorem sameB {h : AHeap} {v w : AVal} {l : List Int} (L : SlIn h 1 encB v l) (M : SlIn h 1 encB w l) : CallP AP 13 [v, w] h fun r h' => r = .bool true ∧ h' = h := by
  refine callP (rfl : Tr.get AP 13 = some A13) ?_
  generalize hQ : (fun (r : AVal) (h' : AHeap) => _) = Q
  have l1 := SlIn.b2s L
  have l2 := SlIn.b2s M
  simp -implicitDefEqProofs (disch := first | decide | assumption | omega | (simp -implicitDefEqProofs only [AM.RN]; first | done | omega) | fail) only [↓AM.R0, AM.R1, AM.R2, Nat.reduceAdd, Nat.reduceLeDiff, Nat.reduceEqDiff, Int.reduceToNat, Nat.reduceLT, ↓reduceIte, Int.reduceEq, Int.reduceLT, Int.reduceLE, l1, l2, beq_self_eq_true]
  subst hQ
  exact ⟨rfl, rfl⟩

def smallP : PProg := ⟨[], [], [⟨0, [0], [], [⟨1, 0, 0, 0, 300, []⟩]⟩]⟩
theorem small (h : AHeap) : CallP AP 18 [] h fun r h' => r = .agg [.nils, .nils, .sl (h.n + 3) 0 0 1 4] ∧ HFrame h h' [] [] ∧ h'.n = h.n + 4 ∧ h'.get (h.n + 1) = .cells 0 false [.int .i64 0] ∧
    h'.get (h.n + 2) = .cells 0 false [.int .i64 1, .int .i64 0, .int .i64 0, .int .i64 0, .int .u64 300, .nils] ∧ h'.get (h.n + 3) = .cells 0 false [.int .i64 0, .sl (h.n + 1) 0 0 1 1, .nils, .sl (h.n + 2) 0 0 1 6] := by
  refine callP (rfl : Tr.get AP 18 = some A18) ?_
  generalize hQ : (fun (r : AVal) (h' : AHeap) => _) = Q
  have f0 := HFrame.refl (h := h) (F := []) (by simp)
  simp -implicitDefEqProofs (disch := first | decide | assumption | omega | (simp -implicitDefEqProofs only [AM.RN]; first | done | omega) | fail) only [↓AM.R0, AM.R1, AM.R2, Nat.reduceAdd, Nat.reduceLeDiff, Nat.reduceEqDiff, Int.reduceToNat, Nat.reduceLT, ↓reduceIte, Int.reduceEq, Int.reduceLT, Int.reduceLE]
  subst hQ
  refine ⟨rfl, ((((f0.pushTmp _).pushTmp _).pushTmp _).pushTmp _).setTmp (Nat.le_refl _) _, by simp, ?_, ?_, ?_⟩
  · rw [AHeap.get_set_ne _ _ (by omega), AHeap.get_push_ne _ _ (by simp), AHeap.get_push_ne _ _ (by simp)]; exact AHeap.get_push_same _ _
  · rw [AHeap.get_set_ne _ _ (by omega), AHeap.get_push_ne _ _ (by simp)]; exact AHeap.get_push_same _ _
  · rw [AHeap.get_set_ne _ _ (by omega)]; exact AHeap.get_push_same _ _
/-- A program of one function with one slot and one instruction, as 'small' lays it. -/
theorem smallR {h : AHeap} {b : Nat} {op a b' c : Int} {imm : Nat} (hn : b + 3 < h.n) (hi : imm ≤ 18446744073709551615) (g1 : h.get (b + 1) = .cells 0 false [.int .i64 0])
    (g2 : h.get (b + 2) = .cells 0 false [.int .i64 op, .int .i64 a, .int .i64 b', .int .i64 c, .int .u64 imm, .nils]) (g3 : h.get (b + 3) = .cells 0 false [.int .i64 0, .sl (b + 1) 0 0 1 1, .nils, .sl (b + 2) 0 0 1 6]) :
    ProgR h ⟨[], [], [⟨0, [0], [], [⟨op, a, b', c, imm, []⟩]⟩]⟩ [.nils, .nils, .sl (b + 3) 0 0 1 4] := by
  refine ⟨_, _, _, rfl, .inl ⟨rfl, rfl⟩, .inl (.inl ⟨rfl, rfl⟩), .inr (.inr ⟨b + 3, 0, 0, _, false, [[.int .i64 0, .sl (b + 1) 0 0 1 1, .nils, .sl (b + 2) 0 0 1 6]], rfl, g3, hn, by simp, rfl, rfl, by simp, ?_⟩)⟩
  intro i x row h1 h2
  cases i with
  | succ i => simp at h1
  | zero =>
    simp only [List.getElem?_cons_zero, Option.some.injEq] at h1 h2
    subst h1 h2
    refine ⟨_, _, _, rfl, .inl (.inr ⟨b + 1, 0, 0, _, false, rfl, g1, by omega, by simp, by simp⟩), .inl (.inl ⟨rfl, rfl⟩), .inr (.inr ⟨b + 2, 0, 0, _, false, [[.int .i64 op, .int .i64 a, .int .i64 b', .int .i64 c, .int .u64 imm, .nils]], rfl, g2, by omega, by simp, rfl, rfl, by simp, ?_⟩)⟩
    intro i x row h1 h2
    cases i with
    | succ i => simp at h1
    | zero =>
      simp only [List.getElem?_cons_zero, Option.some.injEq] at h1 h2
      subst h1 h2
      exact ⟨hi, .nils, rfl, .inl (.inl ⟨rfl, rfl⟩)⟩

theorem wordB_small {n : Nat} (h : n ≤ 127) : wordB n = [(n : Int)] := by rw [wordB, if_neg (by omega)]
theorem wprog_small : wprog smallP = ([0, 0, 1, 0, 1, 0, 0, 1, 1, 0, 0, 0, 172, 2, 0], 0) := by
  have w300 : wordB 300 = [172, 2] := by rw [wordB, if_pos (by decide), wordB_small (by decide)]; rfl
  have w0 : wordB 0 = [0] := wordB_small (by decide)
  have w1 : wordB 1 = [1] := wordB_small (by decide)
  have m0 : min (0 : Int) 65535 = 0 := rfl
  have m1 : min (1 : Int) 65535 = 1 := rfl
  simp [wprog, smallP, wfunc, wkinds, wcount, winsP, wins, wnum, wword, wfail, w300, w0, w1, m0, m1]
theorem pdec_small : pdec [0, 0, 1, 0, 1, 0, 0, 1, 1, 0, 0, 0, 172, 2, 0] = .ok smallP 15 := by rfl

theorem small_sz : smallP.Sz := by
  refine ⟨by decide, by decide, by decide, by simp [smallP], ?_⟩
  intro f hf
  simp only [smallP, List.mem_cons, List.not_mem_nil, or_false] at hf
  subst hf
  refine ⟨by decide, by decide, by decide, ?_⟩
  intro i hi
  simp only [List.mem_cons, List.not_mem_nil, or_false] at hi
  subst hi
  show (0 : Nat) ≤ _
  omega

theorem bytesOk (l : List Int) (h : ∀ b, b ∈ l → 0 ≤ b ∧ b ≤ 255) : ∀ b, b ∈ l → 0 ≤ b ∧ b ≤ 255 := h

theorem HFrame.non {h h' : AHeap} {A B : List Nat} (f : HFrame h h' A B) : HFrame h h' A [] := ⟨f.n, f.g, f.get, fun j hj => (nomatch hj), fun j hj => (nomatch hj)⟩

theorem awake (h : AHeap) : CallP AP 12 [] h fun r h' => r = .bool true ∧ HFrame h h' [] [] := by
  refine callP (rfl : Tr.get AP 12 = some A12) ?_
  generalize hQ : (fun (r : AVal) (h' : AHeap) => _) = Q
  simp -implicitDefEqProofs (disch := first | decide | assumption | omega | (simp -implicitDefEqProofs only [AM.RN]; first | done | omega) | fail) only [↓AM.R0, AM.R1, AM.R2, Nat.reduceAdd, Nat.reduceLeDiff, Nat.reduceEqDiff, Int.reduceToNat, Nat.reduceLT, ↓reduceIte, Int.reduceEq, Int.reduceLT, Int.reduceLE]
  refine AM.callI_of (small h) ?_
  rintro r h1 ⟨rfl, f1, n1, g1, g2, g3⟩
  have R1 := smallR (by omega) (by decide) g1 g2 g3
  simp -implicitDefEqProofs (disch := first | decide | assumption | omega | (simp -implicitDefEqProofs only [AM.RN]; first | done | omega) | fail) only [↓AM.R0, AM.R1, AM.R2, Nat.reduceAdd, Nat.reduceLeDiff, Nat.reduceEqDiff, Int.reduceToNat, Nat.reduceLT, ↓reduceIte, Int.reduceEq, Int.reduceLT, Int.reduceLE]
  refine AM.callI_of (encode R1 (by decide) (by simp)) ?_
  rintro r h2 ⟨ov, Fo, f2, q⟩
  have hw : wprog ⟨[], [], [⟨0, [0], [], [⟨1, 0, 0, 0, 300, []⟩]⟩]⟩ = ([0, 0, 1, 0, 1, 0, 0, 1, 1, 0, 0, 0, 172, 2, 0], 0) := wprog_small
  rw [hw, if_pos (by decide)] at q
  obtain ⟨rfl, s2⟩ := q
  have lo := s2.len
  simp -implicitDefEqProofs (disch := first | decide | assumption | omega | (simp -implicitDefEqProofs only [AM.RN]; first | done | omega) | fail) only [↓AM.R0, AM.R1, AM.R2, Nat.reduceAdd, Nat.reduceLeDiff, Nat.reduceEqDiff, Int.reduceToNat, Nat.reduceLT, ↓reduceIte, Int.reduceEq, Int.reduceLT, Int.reduceLE]
  refine AM.callI_of (decode (.inl s2.rd) (by decide) [] (by simp)) ?_
  rintro r h3 ⟨f3, row, rfl, hr1, hr2, hrow⟩
  rw [pdec_small] at hrow ⊢
  simp only [PR.err, PR.fn, PR.pl, PR.prog] at hrow ⊢
  have bi : ∀ (k : IntKind) (n : Int), (AVal.int k n).beq (.int k n) = true := fun k n => by simp [AVal.beq]
  have lo15 : ∀ h' : AHeap, lenV h' ov = some (.int .i64 15, h') := lo
  have hR3 : ProgR h3 smallP row := (ProgS.unmask hrow).r
  obtain ⟨tv, gv, fv, rfl, t1, t2, t3⟩ := hrow
  have b1 : tv.beq tv = true := by obtain ⟨_, q, _⟩ := t1; exact q.beq
  have b2 : gv.beq gv = true := t2.beq
  have b3 : fv.beq fv = true := by obtain ⟨_, q, _⟩ := t3; exact q.beq
  simp -implicitDefEqProofs (disch := first | decide | assumption | omega | (simp -implicitDefEqProofs only [AM.RN]; first | done | omega) | fail) only [↓AM.R0, AM.R1, AM.R2, Nat.reduceAdd, Nat.reduceLeDiff, Nat.reduceEqDiff, Int.reduceToNat, Nat.reduceLT, ↓reduceIte, Int.reduceEq, Int.reduceLT, Int.reduceLE, hr1, hr2, lo15, bi]
  obtain ⟨hD, hDe⟩ : ∃ hD, hD = (((h3.push (.cells 0 false [.nils, .nils, .nils])).push (.cells 0 false [.int .i64 0, .int .i64 0, .int .i64 0])).set h3.n (.cells 0 false [tv, gv, fv])).set (h3.n + 1) (.cells 0 false [.int .i64 0, .int .i64 0, .int .i64 ((0 : Nat) : Int)]) := ⟨_, rfl⟩
  have fD : HFrame h3 hD [] [] := by rw [hDe]; exact ((((HFrame.refl (by simp)).pushTmp _).pushTmp _).setTmp (Nat.le_refl _) _).setTmp (by omega) _
  have gD : hD.get h3.n = .cells 0 false [tv, gv, fv] := by rw [hDe, AHeap.get_set_ne _ _ (by omega)]; exact AHeap.get_set_same _ _ _
  have nD : hD.n = h3.n + 2 := by rw [hDe]; rfl
  rw [← hDe]
  have fx : ∀ {h' : AHeap}, HFrame h3 h' [] [] → HFrame h h' [] [] := fun g => (tmpF (n := h.n) (f1.trans (HFrame.non f2)) (f3.trans g) (Nat.le_refl _) (by have := f2.n; omega) (by simp)).1
  refine AM.trCall_of (small hD) ?_
  rintro r h4 ⟨rfl, f4, n4, k1, k2, k3⟩
  have g4 : h4.get h3.n = _ := (f4.get h3.n (by omega) (by simp)).trans gD
  have m4 : h3.n < h4.n := by omega
  simp -implicitDefEqProofs (disch := first | decide | assumption | omega | (simp -implicitDefEqProofs only [AM.RN]; first | done | omega) | fail) only [↓AM.R0, AM.R1, AM.R2, Nat.reduceAdd, Nat.reduceLeDiff, Nat.reduceEqDiff, Int.reduceToNat, Nat.reduceLT, ↓reduceIte, Int.reduceEq, Int.reduceLT, Int.reduceLE]
  have R4 := smallR (by omega) (by decide) k1 k2 k3
  have fk := fD.trans f4
  refine AM.trCall_of (sameProg (ProgR.mono fk.n (fun j hj => fk.get j hj (by simp)) hR3) R4 small_sz) ?_
  rintro r h5 ⟨rfl, f5⟩
  simp -implicitDefEqProofs (disch := first | decide | assumption | omega | (simp -implicitDefEqProofs only [AM.RN]; first | done | omega) | fail) only [↓AM.R0, AM.R1, AM.R2, Nat.reduceAdd, Nat.reduceLeDiff, Nat.reduceEqDiff, Int.reduceToNat, Nat.reduceLT, ↓reduceIte, Int.reduceEq, Int.reduceLT, Int.reduceLE, g4, bi, b1, b2, b3, AM.beq_agg, AM.beqs_cons, AM.beqs_nil]
  subst hQ
  exact ⟨rfl, fx (fk.trans f5)⟩
end Go.Proofs.Ytfagngiceofoeaa.Cd

namespace Go.Proofs.Ytfagngiceofoeaa.Cd
open Go Go.AM Go.Proofs.Ytfagngiceofoeaa.AmGC
attribute [local irreducible] AM.wp AM.wpIs AM.wpTr AM.opI AM.gI AM.cI AM.trI AM.callI AM.fnI AM.trG AM.trOp AM.trCall AM.seqC AM.loopI
set_option maxRecDepth 100000
set_option linter.unusedVariables false
set_option linter.unusedSimpArgs false

theorem ProgR.cellv {h : AHeap} {p : PProg} {row : List AVal} (R : ProgR h p row) : row.all (·.cell) = true ∧ row.length = 3 := by
  obtain ⟨a, b, c, rfl, s1, s2, s3⟩ := R
  have c1 := SlR.cellv s1
  have c2 := SlIn.cellv s2
  have c3 := SlR.cellv s3
  simp only [List.all_cons, c1, c2, c3, List.all_nil, Bool.and_self, List.length_cons, List.length_nil]
  trivial
theorem ProgR.keep {h h' : AHeap} {p : PProg} {row : List AVal} (R : ProgR h p row) {F : List Nat} (f : HFrame h h' [] F) : ProgR h' p row := ProgR.mono f.n (fun j hj => f.get j hj (by simp)) R

def wres (p : PProg) : Int := if (wprog p).2 = 0 ∧ (wprog p).1.length ≤ 16384 then 0 else if (wprog p).2 = 0 then 2 else (wprog p).2
def wout (p : PProg) : List Int := if (wprog p).2 = 0 ∧ (wprog p).1.length ≤ 16384 then (wprog p).1 else []
theorem encode' {h : AHeap} {p : PProg} {row : List AVal} (R : ProgR h p row) (hsz : pszT p + pszF p + 3 * p.globals.length + 200 < 1073741824) (himm : ∀ f, f ∈ p.funcs → ∀ i, i ∈ f.code → i.imm ≤ 18446744073709551615) :
    CallP AP 10 [.agg row] h fun r h' => ∃ ov Fo, HFrame h h' [] Fo ∧ r = .tup [ov, .int .i64 (wres p)] ∧ SlOf h' 1 encB ov (wout p) Fo := by
  refine (encode R hsz himm).mono ?_
  rintro r h' ⟨ov, Fo, f, q⟩
  unfold wres wout
  split at q
  · rename_i hc
    rw [if_pos hc, if_pos hc]
    exact ⟨ov, Fo, f, q.1, q.2⟩
  · rename_i hc
    rw [if_neg hc, if_neg hc]
    exact ⟨.nils, [], HFrame.non f, q, SlOf.nil⟩
theorem refEncode' {h : AHeap} {p : PProg} {row : List AVal} (R : ProgR h p row) (ok : p.Ok) (hsz : 10 * p.types.length + (p.types.map tB).sum + (p.funcs.map fB).sum + 10 * p.globals.length + 200 < 1073741824) :
    CallP AP 11 [.agg row] h fun r h' => ∃ ov Fo, HFrame h h' [] Fo ∧ r = .tup [ov, .int .i64 (wres p)] ∧ SlOf h' 1 encB ov (wout p) Fo := by
  refine (refEncode R ok hsz).mono ?_
  rintro r h' ⟨ov, Fo, f, q⟩
  unfold wres wout
  split at q
  · rename_i hc
    rw [if_pos hc, if_pos hc]
    exact ⟨ov, Fo, f, q.1, q.2⟩
  · rename_i hc
    rw [if_neg hc, if_neg hc]
    exact ⟨.nils, [], HFrame.non f, q, SlOf.nil⟩

theorem lawEncodes {h : AHeap} {p : PProg} {row : List AVal} (R : ProgR h p row) (ok : p.Ok) (hsz : 10 * p.types.length + (p.types.map tB).sum + (p.funcs.map fB).sum + 10 * p.globals.length + 200 < 1073741824)
    (hsz2 : pszT p + pszF p + 3 * p.globals.length + 200 < 1073741824) : CallP AP 3 [.agg row] h fun r h' => r = .bool true := by
  obtain ⟨hc, hl⟩ := ProgR.cellv R
  have ht : List.take 3 row = row := List.take_of_length_le (by omega)
  refine callP (rfl : Tr.get AP 3 = some A3) ?_
  generalize hQ : (fun (r : AVal) (h' : AHeap) => _) = Q
  simp -implicitDefEqProofs (disch := first | decide | assumption | omega | (simp -implicitDefEqProofs only [AM.RN]; first | done | omega) | fail) only [↓AM.R0, AM.R1, AM.R2, Nat.reduceAdd, Nat.reduceLeDiff, Nat.reduceEqDiff, Int.reduceToNat, Nat.reduceLT, ↓reduceIte, Int.reduceEq, Int.reduceLT, Int.reduceLE, hc, hl, ht]
  have f0 := (HFrame.refl (h := h) (F := []) (by simp)).pushTmp (.cells 0 false row)
  have g0 := AHeap.get_push_same h (.cells 0 false row)
  have n0 : (h.push (.cells 0 false row)).n = h.n + 1 := rfl
  generalize h.push (.cells 0 false row) = h0 at *
  refine AM.callI_of (encode' (R.keep f0) hsz2 (fun f hf i hi => (ok.funcs f hf).code i hi |>.imm)) ?_
  rintro r h1 ⟨ov, Fo, f1, rfl, s1⟩
  have f01 := f0.trans f1
  have g1 := (f1.get h.n (by omega) (by simp)).trans g0
  have n1 : h.n < h1.n := by have := f1.n; omega
  simp -implicitDefEqProofs (disch := first | decide | assumption | omega | (simp -implicitDefEqProofs only [AM.RN]; first | done | omega) | fail) only [↓AM.R0, AM.R1, AM.R2, Nat.reduceAdd, Nat.reduceLeDiff, Nat.reduceEqDiff, Int.reduceToNat, Nat.reduceLT, ↓reduceIte, Int.reduceEq, Int.reduceLT, Int.reduceLE, hl, g1, ht]
  refine AM.callI_of (refEncode' (R.keep f01) ok hsz) ?_
  rintro r h2 ⟨ow, Fw, f2, rfl, s2⟩
  simp -implicitDefEqProofs (disch := first | decide | assumption | omega | (simp -implicitDefEqProofs only [AM.RN]; first | done | omega) | fail) only [↓AM.R0, AM.R1, AM.R2, Nat.reduceAdd, Nat.reduceLeDiff, Nat.reduceEqDiff, Int.reduceToNat, Nat.reduceLT, ↓reduceIte, Int.reduceEq, Int.reduceLT, Int.reduceLE]
  refine AM.callI_of (awake h2) ?_
  rintro r h3 ⟨rfl, f3⟩
  simp -implicitDefEqProofs (disch := first | decide | assumption | omega | (simp -implicitDefEqProofs only [AM.RN]; first | done | omega) | fail) only [↓AM.R0, AM.R1, AM.R2, Nat.reduceAdd, Nat.reduceLeDiff, Nat.reduceEqDiff, Int.reduceToNat, Nat.reduceLT, ↓reduceIte, Int.reduceEq, Int.reduceLT, Int.reduceLE]
  refine AM.callI_of (sameB (l := wout p) (.inl ((s1.rd.keep f2).keep f3)) (.inl (s2.rd.keep f3))) ?_
  rintro r h4 ⟨rfl, rfl⟩
  simp -implicitDefEqProofs (disch := first | decide | assumption | omega | (simp -implicitDefEqProofs only [AM.RN]; first | done | omega) | fail) only [↓AM.R0, AM.R1, AM.R2, Nat.reduceAdd, Nat.reduceLeDiff, Nat.reduceEqDiff, Int.reduceToNat, Nat.reduceLT, ↓reduceIte, Int.reduceEq, Int.reduceLT, Int.reduceLE]
  subst hQ
  rfl

def Nz {α : Type} (x : PR α) : Prop := ∀ e n, x = .bad e n → e ≠ 0
theorem Nz.ok {α : Type} (a : α) (n : Nat) : Nz (.ok a n) := fun e m h => by cases h
theorem Nz.bad {α : Type} {e : Int} {n : Nat} (h : e ≠ 0) : Nz (.bad e n : PR α) := fun e' m q => by cases q; exact h
theorem Nz.bind {α β : Type} {x : PR α} {f : α → Nat → PR β} (h : Nz x) (g : ∀ a n, Nz (f a n)) : Nz (x.bind f) := by
  cases x with
  | ok a n => exact g a n
  | bad e n => exact fun e' m q => by cases q; exact h _ _ rfl
theorem Nz.word (fr : Nat) : ∀ (l : List Int) (q i n : Nat), Nz (wordR fr l q i n)
  | [], q, i, n => Nz.bad (by decide)
  | b :: l, q, i, n => by
    unfold wordR
    split
    · exact Nz.bad (by decide)
    · split
      · exact Nz.ok _ _
      · exact Nz.word fr l _ _ _
theorem Nz.num (t : List Int) (lim : Nat) {e : Int} (he : e ≠ 0) (p : Nat) : Nz (pnum t lim e p) := Nz.bind (Nz.word _ _ _ _ _) fun a n => by
  split
  · exact Nz.bad he
  · exact Nz.ok _ _
theorem Nz.list {α : Type} {f : Nat → PR α} (h : ∀ p, Nz (f p)) : ∀ c p, Nz (plist f c p)
  | 0, p => Nz.ok _ _
  | c + 1, p => Nz.bind (h p) fun a n => Nz.bind (Nz.list h c n) fun l n => Nz.ok _ _
theorem Nz.kinds (t : List Int) (lim p : Nat) : Nz (pkinds t lim p) := Nz.bind (Nz.num _ _ (by decide) _) fun a n => Nz.list (fun p => Nz.num _ _ (by decide) _) _ _
theorem Nz.ins (t : List Int) (p : Nat) : Nz (pins t p) := Nz.bind (Nz.list (fun p => Nz.num _ _ (by decide) _) _ _) fun _ _ => Nz.bind (Nz.word _ _ _ _ _) fun _ _ => Nz.bind (Nz.num _ _ (by decide) _) fun _ _ => Nz.bind (Nz.list (fun p => Nz.num _ _ (by decide) _) _ _) fun _ _ => Nz.ok _ _
theorem Nz.dec (t : List Int) : Nz (pdec t) := by
  unfold pdec
  split
  · exact Nz.bad (by decide)
  · exact Nz.bind (Nz.num _ _ (by decide) _) fun _ _ => Nz.bind (Nz.list (fun p => Nz.bind (Nz.num _ _ (by decide) _) fun _ _ => Nz.bind (Nz.kinds _ _ _) fun _ _ => Nz.ok _ _) _ _) fun _ _ => Nz.bind (Nz.kinds _ _ _) fun _ _ => Nz.bind (Nz.num _ _ (by decide) _) fun _ _ =>
      Nz.bind (Nz.list (fun p => Nz.bind (Nz.num _ _ (by decide) _) fun _ _ => Nz.bind (Nz.kinds _ _ _) fun _ _ => Nz.bind (Nz.kinds _ _ _) fun _ _ => Nz.bind (Nz.num _ _ (by decide) _) fun _ _ => Nz.bind (Nz.list (fun p => Nz.ins _ _) _ _) fun _ _ => Nz.ok _ _) _ _) fun _ _ => by
        split
        · exact Nz.bad (by decide)
        · exact Nz.ok _ _
theorem fn_of (t : List Int) : (pdec t).fn = if (pdec t).err = 0 then 0 else -1 := by
  have := Nz.dec t
  cases h : pdec t with
  | ok a n => rfl
  | bad e n => exact (if_neg (this e n h)).symm

theorem lawDecodes {h : AHeap} {v : AVal} {t : List Int} (L : SlIn h 1 encB v t) (hb : ∀ b, b ∈ t → 0 ≤ b ∧ b ≤ 255) (hsz : (pdec t).prog.Sz) : CallP AP 4 [v] h fun r h' => r = .bool true := by
  refine callP (rfl : Tr.get AP 4 = some A4) ?_
  generalize hQ : (fun (r : AVal) (h' : AHeap) => _) = Q
  simp -implicitDefEqProofs (disch := first | decide | assumption | omega | (simp -implicitDefEqProofs only [AM.RN]; first | done | omega) | fail) only [↓AM.R0, AM.R1, AM.R2, Nat.reduceAdd, Nat.reduceLeDiff, Nat.reduceEqDiff, Int.reduceToNat, Nat.reduceLT, ↓reduceIte, Int.reduceEq, Int.reduceLT, Int.reduceLE]
  refine AM.callI_of (decode L hb [] (by simp)) ?_
  rintro r h1 ⟨f1, row, rfl, hr1, hr2, hrow⟩
  simp -implicitDefEqProofs (disch := first | decide | assumption | omega | (simp -implicitDefEqProofs only [AM.RN]; first | done | omega) | fail) only [↓AM.R0, AM.R1, AM.R2, Nat.reduceAdd, Nat.reduceLeDiff, Nat.reduceEqDiff, Int.reduceToNat, Nat.reduceLT, ↓reduceIte, Int.reduceEq, Int.reduceLT, Int.reduceLE, hr1, hr2]
  obtain ⟨hD, hDe⟩ : ∃ hD, hD = (((h1.push (.cells 0 false [.nils, .nils, .nils])).push (.cells 0 false [.int .i64 0, .int .i64 0, .int .i64 0])).set h1.n (.cells 0 false row)).set (h1.n + 1) (.cells 0 false [.int .i64 (pdec t).err, .int .i64 (pdec t).fn, .int .i64 (pdec t).pl]) := ⟨_, rfl⟩
  have fD : HFrame h1 hD [] [] := by rw [hDe]; exact ((((HFrame.refl (by simp)).pushTmp _).pushTmp _).setTmp (Nat.le_refl _) _).setTmp (by omega) _
  have gD : hD.get h1.n = .cells 0 false row := by rw [hDe, AHeap.get_set_ne _ _ (by omega)]; exact AHeap.get_set_same _ _ _
  have gE : hD.get (h1.n + 1) = .cells 0 false [.int .i64 (pdec t).err, .int .i64 (pdec t).fn, .int .i64 (pdec t).pl] := by rw [hDe]; exact AHeap.get_set_same _ _ _
  have nD : hD.n = h1.n + 2 := by rw [hDe]; rfl
  rw [← hDe]
  refine AM.callI_of (refDecode ((L.keep f1).keep fD) hb [] (by simp)) ?_
  rintro r h2 ⟨f2, row2, rfl, hs1, hs2, hrow2⟩
  have hR1 : ProgR h1 (pdec t).prog row := (ProgS.unmask hrow).r
  have hR2 : ProgR h2 (pdec t).prog row2 := (ProgS.unmask hrow2).r
  have gD2 := (f2.get h1.n (by omega) (by simp)).trans gD
  have gE2 := (f2.get (h1.n + 1) (by omega) (by simp)).trans gE
  have n2 := f2.n
  have ht1 : List.take 3 row = row := List.take_of_length_le (by omega)
  have ht2 : List.take 3 row2 = row2 := List.take_of_length_le (by omega)
  simp -implicitDefEqProofs (disch := first | decide | assumption | omega | (simp -implicitDefEqProofs only [AM.RN]; first | done | omega) | fail) only [↓AM.R0, AM.R1, AM.R2, Nat.reduceAdd, Nat.reduceLeDiff, Nat.reduceEqDiff, Int.reduceToNat, Nat.reduceLT, ↓reduceIte, Int.reduceEq, Int.reduceLT, Int.reduceLE, hs1, hs2]
  obtain ⟨hF, hFe⟩ : ∃ hF, hF = (h2.push (.cells 0 false [.nils, .nils, .nils])).set h2.n (.cells 0 false row2) := ⟨_, rfl⟩
  have fF : HFrame h2 hF [] [] := by rw [hFe]; exact ((HFrame.refl (by simp)).pushTmp _).setTmp (Nat.le_refl _) _
  have gF : hF.get h2.n = .cells 0 false row2 := by rw [hFe]; exact AHeap.get_set_same _ _ _
  have nF : hF.n = h2.n + 1 := by rw [hFe]; rfl
  have gDF := (fF.get h1.n (by omega) (by simp)).trans gD2
  have gEF := (fF.get (h1.n + 1) (by omega) (by simp)).trans gE2
  have hfn := fn_of t
  have key : ∀ (e : Env), e.val 3 = .ptr h1.n 0 0 → e.val 4 = .ptr (h1.n + 1) 0 0 → e.val 5 = .ptr h2.n 0 0 → e.val 6 = .int .i64 (pdec t).err → e.val 7 = .int .i64 (pdec t).pl → e.val 8 = .int .i64 (pdec t).fn → wp AP (.seq (.region [⟨(some 22), .call (.fnv 12) [], none⟩,
    ⟨(some 23), .op (.mov (.tmp 22)), none⟩,
    ⟨(some 24), .op (.load (some 3) (.tmp 3)), (some (23, true))⟩,
    ⟨(some 25), .op (.load (some 3) (.tmp 5)), (some (23, true))⟩,
    ⟨(some 26), .call (.fnv 16) [(.tmp 24), (.tmp 25)], (some (23, true))⟩,
    ⟨(some 27), .op (.pick (.tmp 23) (.tmp 26) (.val (.bool false))), none⟩,
    ⟨(some 28), .op (.mov (.tmp 27)), none⟩,
    ⟨(some 29), .op (.load (some 3) (.tmp 4)), (some (28, true))⟩,
    ⟨(some 30), .op (.mov (.tmp 6)), (some (28, true))⟩,
    ⟨(some 31), .op (.mov (.tmp 8)), (some (28, true))⟩,
    ⟨(some 32), .op (.mov (.tmp 7)), (some (28, true))⟩,
    ⟨(some 33), .op (.build [(.int .i64 0), (.int .i64 0), (.int .i64 0)] [(0, 1, (.tmp 30)), (1, 1, (.tmp 31)), (2, 1, (.tmp 32))]), (some (28, true))⟩,
    ⟨(some 34), .op (.eql false (.flat [.int, .int, .int]) (.tmp 29) (.tmp 33)), (some (28, true))⟩,
    ⟨(some 35), .op (.pick (.tmp 28) (.tmp 34) (.val (.bool false))), none⟩,
    ⟨(some 2), .op (.mov (.tmp 35)), none⟩]) .ret) (retQ [.tmp 2] Q) e hF := by
    intro e e3 e4 e5 e6 e7 e8
    simp -implicitDefEqProofs (disch := first | decide | assumption | omega | (simp -implicitDefEqProofs only [AM.RN]; first | done | omega) | fail) only [↓AM.R0, AM.R1, AM.R2, Nat.reduceAdd, Nat.reduceLeDiff, Nat.reduceEqDiff, Int.reduceToNat, Nat.reduceLT, ↓reduceIte, Int.reduceEq, Int.reduceLT, Int.reduceLE]
    refine AM.callI_of (awake hF) ?_
    rintro r h4 ⟨rfl, f4⟩
    have gD4 := (f4.get h1.n (by omega) (by simp)).trans gDF
    have gE4 := (f4.get (h1.n + 1) (by omega) (by simp)).trans gEF
    have gF4 := (f4.get h2.n (by omega) (by simp)).trans gF
    have n4 := f4.n
    simp -implicitDefEqProofs (disch := first | decide | assumption | omega | (simp -implicitDefEqProofs only [AM.RN]; first | done | omega) | fail) only [↓AM.R0, AM.R1, AM.R2, Nat.reduceAdd, Nat.reduceLeDiff, Nat.reduceEqDiff, Int.reduceToNat, Nat.reduceLT, ↓reduceIte, Int.reduceEq, Int.reduceLT, Int.reduceLE, e3, e4, e5, e6, e7, e8, gD4, gF4, hr1, hs1, ht1, ht2]
    have fa := ((fD.trans f2).trans fF).trans f4
    refine AM.callI_of (sameProg (ProgR.keep hR1 fa) (ProgR.keep hR2 (fF.trans f4)) hsz) ?_
    rintro r h5 ⟨rfl, f5⟩
    have gE5 := (f5.get (h1.n + 1) (by omega) (by simp)).trans gE4
    have n5 := f5.n
    simp -implicitDefEqProofs (disch := first | decide | assumption | omega | (simp -implicitDefEqProofs only [AM.RN]; first | done | omega) | fail) only [↓AM.R0, AM.R1, AM.R2, Nat.reduceAdd, Nat.reduceLeDiff, Nat.reduceEqDiff, Int.reduceToNat, Nat.reduceLT, ↓reduceIte, Int.reduceEq, Int.reduceLT, Int.reduceLE, e3, e4, e5, e6, e7, e8, gE5]
    subst hQ
    rfl
  rw [← hFe]
  refine AM.cI_bool (fun hc => ?_) (fun hc => ?_)
  · simp only [Bool.not_eq_true', decide_eq_false_iff_not] at hc
    rw [if_neg hc] at hfn
    simp -implicitDefEqProofs (disch := first | decide | assumption | omega | (simp -implicitDefEqProofs only [AM.RN]; first | done | omega) | fail) only [↓ AM.w_region, ↓ AM.is_op, ↓ AM.is_nil, AM.a_mov, ↓ AM.opI_some, AM.opd_val, ↓ AM.q_seq]
    refine key _ ?_ ?_ ?_ ?_ ?_ ?_ <;> simp -implicitDefEqProofs (disch := first | decide | assumption | omega | (simp -implicitDefEqProofs only [AM.RN]; first | done | omega) | fail) only [↓AM.R0, AM.R1, AM.R2, Nat.reduceAdd, Nat.reduceLeDiff, Nat.reduceEqDiff, Int.reduceToNat, Nat.reduceLT, ↓reduceIte, Int.reduceEq, Int.reduceLT, Int.reduceLE, hfn]
  · simp only [Bool.not_eq_false', decide_eq_true_eq] at hc
    rw [if_pos hc] at hfn
    simp -implicitDefEqProofs (disch := first | decide | assumption | omega | (simp -implicitDefEqProofs only [AM.RN]; first | done | omega) | fail) only [↓ AM.w_skip, ↓ AM.q_seq]
    refine key _ ?_ ?_ ?_ ?_ ?_ ?_ <;> simp -implicitDefEqProofs (disch := first | decide | assumption | omega | (simp -implicitDefEqProofs only [AM.RN]; first | done | omega) | fail) only [↓AM.R0, AM.R1, AM.R2, Nat.reduceAdd, Nat.reduceLeDiff, Nat.reduceEqDiff, Int.reduceToNat, Nat.reduceLT, ↓reduceIte, Int.reduceEq, Int.reduceLT, Int.reduceLE, hfn]
end Go.Proofs.Ytfagngiceofoeaa.Cd

namespace Go.Proofs.Ytfagngiceofoeaa.Cd
open Go Go.AM Go.Proofs.Ytfagngiceofoeaa.AmGC
attribute [local irreducible] AM.wp AM.wpIs AM.wpTr AM.opI AM.gI AM.cI AM.trI AM.callI AM.fnI AM.trG AM.trOp AM.trCall AM.seqC AM.loopI
set_option maxRecDepth 100000
set_option linter.unusedVariables false
set_option linter.unusedSimpArgs false

/-- The types of a program. -/
structure PT (P : Program) (tB tI tU tK tSK tSI tIns tSIns tFunc tSFunc tType tSType tProg : TypeId) : Prop where
  uB : P.underlying tB = some .bool
  uI : P.underlying tI = some (.int .i64)
  uU : P.underlying tU = some (.int .u64)
  uK : P.underlying tK = some (.int .i64)
  uSK : P.underlying tSK = some (.slice tK)
  uSI : P.underlying tSI = some (.slice tI)
  uIns : ∃ fs, P.underlying tIns = some (.struct fs) ∧ fs.toList.map (·.type) = [tI, tI, tI, tI, tU, tSI]
  uSIns : P.underlying tSIns = some (.slice tIns)
  uFunc : ∃ fs, P.underlying tFunc = some (.struct fs) ∧ fs.toList.map (·.type) = [tI, tSK, tSK, tSIns]
  uSFunc : P.underlying tSFunc = some (.slice tFunc)
  uType : ∃ fs, P.underlying tType = some (.struct fs) ∧ fs.toList.map (·.type) = [tB, tSK]
  uSType : P.underlying tSType = some (.slice tType)
  uProg : ∃ fs, P.underlying tProg = some (.struct fs) ∧ fs.toList.map (·.type) = [tSType, tSK, tSFunc]
  cK : P.cellsOf tK = 1
  cI : P.cellsOf tI = 1
  cIns : P.cellsOf tIns = 6
  cFunc : P.cellsOf tFunc = 4
  cType : P.cellsOf tType = 2

def sT (t : Bool × List Int) : Nat := t.2.length + 3
def sI (i : PIns) : Nat := i.list.length + 7
def sF (f : PFunc) : Nat := f.slots.length + f.results.length + (f.code.map sI).sum + 5
def sP (p : PProg) : Nat := (p.types.map sT).sum + p.globals.length + (p.funcs.map sF).sum + 4

theorem slr_map {h : AHeap} {m : Nat} {α β : Type} {f : α → β} {R : β → List AVal → Prop} {v : AVal} {l : List α} (s : SlR h m (fun a row => R (f a) row) v l) : SlR h m R v (l.map f) := by
  rcases s with ⟨a, rfl⟩ | ⟨id, off, a, rfl, c, e⟩ | ⟨id, g, off, vs, ro, rows, rfl, e1, e2, e0, e3, e4, e5, e6⟩
  · exact .inl ⟨a, rfl⟩
  · exact .inr (.inl ⟨id, off, a, rfl, c, e⟩)
  · refine .inr (.inr ⟨id, g, off, vs, ro, rows, by simp, e1, e2, by simpa using e0, by simpa using e3, by simpa using e4, e5, fun i a row h1 h2 => ?_⟩)
    rw [List.getElem?_map] at h1
    simp only [Option.map_eq_some_iff] at h1
    obtain ⟨x, hx, rfl⟩ := h1
    exact e6 i x row hx h2

section
variable {H : Type} {P : Program} {tB tI tU tK tSK tSI tIns tSIns tFunc tSFunc tType tSType tProg : TypeId} (T : PT P tB tI tU tK tSK tSI tIns tSIns tFunc tSFunc tType tSType tProg) {bw : DataW H → Nat} {all : List (DataW H) → Nat} (B : Bulk H bw all) {h : AHeap} {F : Nat}
 include T B
theorem insIn {cs : List AVal} {d : DataW H} (ad : AD P h (F + 3) tIns cs d) : ∃ i : PIns, InsR h i cs ∧ i.Ok ∧ sI i ≤ bw d := by
  obtain ⟨fs, u, e⟩ := T.uIns
  obtain ⟨parts, rfl, q⟩ := adStruct u ad
  rw [e] at q
  obtain ⟨c0, x0, r0, d0, rfl, rfl, _, a0, c1, x1, r1, d1, rfl, rfl, _, a1, c2, x2, r2, d2, rfl, rfl, _, a2, c3, x3, r3, d3, rfl, rfl, _, a3, c4, x4, r4, d4, rfl, rfl, _, a4, c5, x5, r5, d5, rfl, rfl, _, a5, rfl, rfl⟩ := q
  obtain ⟨m0, rfl, rfl, l0, h0⟩ := adInt T.uI a0
  obtain ⟨m1, rfl, rfl, l1, h1⟩ := adInt T.uI a1
  obtain ⟨m2, rfl, rfl, l2, h2⟩ := adInt T.uI a2
  obtain ⟨m3, rfl, rfl, l3, h3⟩ := adInt T.uI a3
  obtain ⟨m4, rfl, rfl, l4, h4⟩ := adInt T.uU a4
  obtain ⟨v, rfl, l, s, hb, w⟩ := SlIn.ofW B T.uSI T.uI T.cI a5
  have mxi : IntKind.i64.max = mx := by decide
  have mxu : IntKind.u64.max = 18446744073709551615 := by decide
  have mnu : IntKind.u64.min = 0 := by decide
  rw [mxi] at h0 h1 h2 h3
  rw [mxu] at h4
  rw [mnu] at l4
  refine ⟨⟨m0, m1, m2, m3, m4.toNat, l⟩, ⟨by simp only; omega, v, ?_, s⟩, ⟨h0, h1, h2, h3, by simp only; omega, fun x hx => mxi ▸ (hb x hx).2⟩, ?_⟩
  · have : ((m4.toNat : Nat) : Int) = m4 := by omega
    simp [this]
  · simp only [B.agg, B.cons, B.nil, B.int, sI]
    omega
theorem funcIn {cs : List AVal} {d : DataW H} (ad : AD P h (F + 5) tFunc cs d) : ∃ f : PFunc, FuncR h f cs ∧ f.Ok ∧ sF f ≤ bw d := by
  obtain ⟨fs, u, e⟩ := T.uFunc
  obtain ⟨parts, rfl, q⟩ := adStruct u ad
  rw [e] at q
  obtain ⟨c0, x0, r0, d0, rfl, rfl, _, a0, c1, x1, r1, d1, rfl, rfl, _, a1, c2, x2, r2, d2, rfl, rfl, _, a2, c3, x3, r3, d3, rfl, rfl, _, a3, rfl, rfl⟩ := q
  obtain ⟨m0, rfl, rfl, l0, h0⟩ := adInt T.uI a0
  obtain ⟨sv, rfl, sl, s1, b1, w1⟩ := SlIn.ofW B T.uSK T.uK T.cK a1
  obtain ⟨rv, rfl, rl, s2, b2, w2⟩ := SlIn.ofW B T.uSK T.uK T.cK a2
  obtain ⟨cv, rfl, cl, s3, w3⟩ := SlR.ofW (F := F + 3) (α := {i : PIns // i.Ok}) B (fun i => sI i.1) T.uSIns a3 (R := fun i row => InsR h i.1 row) (fun row x hl a => by
    obtain ⟨i, q1, q2, q3⟩ := insIn T B a
    exact ⟨⟨i, q2⟩, q1, q3⟩)
  have mxi : IntKind.i64.max = mx := by decide
  rw [mxi] at h0
  rw [T.cIns] at s3
  refine ⟨⟨m0, sl, rl, cl.map (·.1)⟩, ⟨sv, rv, cv, rfl, s1, s2, slr_map s3⟩, ⟨h0, fun x hx => mxi ▸ (b1 x hx).2, fun x hx => mxi ▸ (b2 x hx).2, ?_⟩, ?_⟩
  · intro x hx
    obtain ⟨y, _, rfl⟩ := List.mem_map.1 hx
    exact y.2
  · simp only [B.agg, B.cons, B.nil, B.int, sF, List.map_map]
    have : (List.map (sI ∘ fun x : {i : PIns // i.Ok} => x.1) cl) = cl.map fun i => sI i.1 := rfl
    rw [this]
    omega
theorem typeIn {cs : List AVal} {d : DataW H} (ad : AD P h (F + 3) tType cs d) : ∃ t : Bool × List Int, TypeR h t cs ∧ (∀ x, x ∈ t.2 → x ≤ mx) ∧ sT t ≤ bw d := by
  obtain ⟨fs, u, e⟩ := T.uType
  obtain ⟨parts, rfl, q⟩ := adStruct u ad
  rw [e] at q
  obtain ⟨c0, x0, r0, d0, rfl, rfl, _, a0, c1, x1, r1, d1, rfl, rfl, _, a1, rfl, rfl⟩ := q
  obtain ⟨b, rfl, rfl⟩ := adBool T.uB a0
  obtain ⟨sv, rfl, sl, s1, b1, w1⟩ := SlIn.ofW B T.uSK T.uK T.cK a1
  have mxi : IntKind.i64.max = mx := by decide
  refine ⟨(b, sl), ⟨sv, rfl, s1⟩, fun x hx => mxi ▸ (b1 x hx).2, ?_⟩
  simp only [B.agg, B.cons, B.nil, B.bool, sT]
  omega
theorem progIn {cs : List AVal} {d : DataW H} (ad : AD P h (F + 7) tProg cs d) : ∃ p : PProg, ProgR h p cs ∧ p.Ok ∧ sP p ≤ bw d := by
  obtain ⟨fs, u, e⟩ := T.uProg
  obtain ⟨parts, rfl, q⟩ := adStruct u ad
  rw [e] at q
  obtain ⟨c0, x0, r0, d0, rfl, rfl, _, a0, c1, x1, r1, d1, rfl, rfl, _, a1, c2, x2, r2, d2, rfl, rfl, _, a2, rfl, rfl⟩ := q
  obtain ⟨tv, rfl, tl, s0, w0⟩ := SlR.ofW (F := F + 5) (α := {t : Bool × List Int // ∀ x, x ∈ t.2 → x ≤ mx}) B (fun t => sT t.1) T.uSType a0 (R := fun t row => TypeR h t.1 row) (fun row x hl a => by
    obtain ⟨i, q1, q2, q3⟩ := typeIn T B (F := F + 2) a
    exact ⟨⟨i, q2⟩, q1, q3⟩)
  obtain ⟨gv, rfl, gl, s1, b1, w1⟩ := SlIn.ofW B T.uSK T.uK T.cK a1
  obtain ⟨fv, rfl, fl, s2, w2⟩ := SlR.ofW (F := F + 5) (α := {f : PFunc // f.Ok}) B (fun f => sF f.1) T.uSFunc a2 (R := fun f row => FuncR h f.1 row) (fun row x hl a => by
    obtain ⟨i, q1, q2, q3⟩ := funcIn T B a
    exact ⟨⟨i, q2⟩, q1, q3⟩)
  have mxi : IntKind.i64.max = mx := by decide
  rw [T.cType] at s0
  rw [T.cFunc] at s2
  refine ⟨⟨tl.map (·.1), gl, fl.map (·.1)⟩, ⟨tv, gv, fv, rfl, slr_map s0, s1, slr_map s2⟩, ⟨?_, fun x hx => mxi ▸ (b1 x hx).2, ?_⟩, ?_⟩
  · intro x hx
    obtain ⟨y, _, rfl⟩ := List.mem_map.1 hx
    exact y.2
  · intro x hx
    obtain ⟨y, _, rfl⟩ := List.mem_map.1 hx
    exact y.2
  · simp only [B.agg, B.cons, B.nil, sP, List.map_map]
    have e1 : (List.map (sT ∘ fun x : {t : Bool × List Int // ∀ x, x ∈ t.2 → x ≤ mx} => x.1) tl) = tl.map fun i => sT i.1 := rfl
    have e2 : (List.map (sF ∘ fun x : {f : PFunc // f.Ok} => x.1) fl) = fl.map fun i => sF i.1 := rfl
    rw [e1, e2]
    omega
end
theorem sum_le {α : Type} (f g : α → Nat) (c : Nat) (l : List α) (h : ∀ a, a ∈ l → f a ≤ c * g a) : (l.map f).sum ≤ c * (l.map g).sum := by
  induction l with
  | nil => simp
  | cons a l ih =>
    have h1 := h a List.mem_cons_self
    have h2 := ih fun a ha => h a (List.mem_cons_of_mem _ ha)
    simp only [List.map_cons, List.sum_cons, Nat.mul_add]; omega
theorem sizes {p : PProg} (h : sP p ≤ 1048577) : 10 * p.types.length + (p.types.map tB).sum + (p.funcs.map fB).sum + 10 * p.globals.length + 200 < 1073741824 ∧ pszT p + pszF p + 3 * p.globals.length + 200 < 1073741824 ∧ p.Sz := by
  have e1 := sum_le tB sT 20 p.types fun t _ => by unfold tB sT; omega
  have e2 := sum_le fB sF 20 p.funcs fun f _ => by
    have := sum_le iB sI 20 f.code fun i _ => by unfold iB sI; omega
    unfold fB sF; omega
  have e3 := sum_le tsz sT 20 p.types fun t _ => by unfold tsz sT; omega
  have e4 := sum_le fsz sF 20 p.funcs fun f _ => by
    have := sum_le isz sI 20 f.code fun i _ => by unfold isz sI; omega
    unfold fsz sF; omega
  have e5 := len_sum sT (fun a => by unfold sT; omega) p.types
  have e6 := len_sum sF (fun a => by unfold sF; omega) p.funcs
  unfold sP at h
  refine ⟨by omega, by unfold pszT pszF; omega, by omega, by omega, by omega, fun t ht => ?_, fun f hf => ?_⟩
  · obtain ⟨i, hi⟩ := List.getElem?_of_mem ht
    have := sum_mem sT hi
    have e : sT t = t.2.length + 3 := rfl
    omega
  · obtain ⟨i, hi⟩ := List.getElem?_of_mem hf
    have := sum_mem sF hi
    have e : sF f = f.slots.length + f.results.length + (f.code.map sI).sum + 5 := rfl
    have e7 := len_sum sI (fun a => by unfold sI; omega) f.code
    refine ⟨by omega, by omega, by omega, fun i hi => ?_⟩
    obtain ⟨j, hj⟩ := List.getElem?_of_mem hi
    have := sum_mem sI hj
    have e8 : sI i = i.list.length + 7 := rfl
    show i.list.length ≤ _
    omega
end Go.Proofs.Ytfagngiceofoeaa.Cd

namespace Go.Proofs.Ytfagngiceofoeaa.Cd
open Go Go.AM Go.Proofs.Ytfagngiceofoeaa.AmGC
attribute [local irreducible] AM.wp AM.wpIs AM.wpTr AM.opI AM.gI AM.cI AM.trI AM.callI AM.fnI AM.trG AM.trOp AM.trCall AM.seqC AM.loopI
set_option maxRecDepth 100000
set_option linter.unusedVariables false
set_option linter.unusedSimpArgs false

def Al {α : Type} (Q : α → Prop) (x : PR α) : Prop := ∀ a n, x = .ok a n → Q a
theorem Al.ok {α : Type} {Q : α → Prop} {a : α} {n : Nat} (h : Q a) : Al Q (.ok a n) := fun b m e => by cases e; exact h
theorem Al.bad {α : Type} {Q : α → Prop} {e : Int} {n : Nat} : Al Q (.bad e n) := fun b m e => by cases e
theorem Al.bind {α β : Type} {R : α → Prop} {Q : β → Prop} {x : PR α} {f : α → Nat → PR β} (h : Al R x) (g : ∀ a n, R a → Al Q (f a n)) : Al Q (x.bind f) := by
  cases x with
  | ok a n => exact g a n (h a n rfl)
  | bad e n => exact Al.bad
theorem Al.any {α : Type} (x : PR α) : Al (fun _ => True) x := fun _ _ _ => trivial
theorem Al.num (t : List Int) (lim : Nat) (e : Int) (p : Nat) : Al (fun n => n ≤ lim) (pnum t lim e p) := Al.bind (Al.any _) fun a n _ => by
  split
  · exact Al.bad
  · exact Al.ok (by omega)
theorem Al.list {α : Type} {Q : α → Prop} {f : Nat → PR α} (h : ∀ p, Al Q (f p)) : ∀ c p, Al (fun l => l.length = c ∧ ∀ a, a ∈ l → Q a) (plist f c p)
  | 0, p => Al.ok ⟨rfl, by simp⟩
  | c + 1, p => Al.bind (h p) fun a n ha => Al.bind (Al.list h c n) fun l m hl => Al.ok ⟨by simp [hl.1], fun b hb => by
      rcases List.mem_cons.1 hb with e | e
      · rw [e]; exact ha
      · exact hl.2 b e⟩
theorem Al.kinds (t : List Int) (lim p : Nat) : Al (fun l => l.length ≤ lim ∧ ∀ a, a ∈ l → a ≤ 65535) (pkinds t lim p) := Al.bind (Al.num _ _ _ _) fun n q hn => by
  intro l m e
  have := Al.list (fun p => Al.num t 65535 1 p) n q l m e
  exact ⟨by omega, this.2⟩

/-- What is read is small. -/
structure PIns.Lo (i : PIns) : Prop where
  op : 0 ≤ i.op ∧ i.op ≤ 65535
  a : 0 ≤ i.a ∧ i.a ≤ 65535
  b : 0 ≤ i.b ∧ i.b ≤ 65535
  c : 0 ≤ i.c ∧ i.c ≤ 65535
  imm : i.imm < 18446744073709551616
  len : i.list.length ≤ 24
  list : ∀ x, x ∈ i.list → 0 ≤ x ∧ x ≤ 65535
structure PFunc.Lo (f : PFunc) : Prop where
  params : 0 ≤ f.params ∧ f.params ≤ 65535
  slots : f.slots.length ≤ 32 ∧ ∀ x, x ∈ f.slots → 0 ≤ x ∧ x ≤ 65535
  results : f.results.length ≤ 32 ∧ ∀ x, x ∈ f.results → 0 ≤ x ∧ x ≤ 65535
  code : f.code.length ≤ 256 ∧ ∀ x, x ∈ f.code → x.Lo
structure PProg.Lo (p : PProg) : Prop where
  types : p.types.length ≤ 32 ∧ ∀ t, t ∈ p.types → t.2.length ≤ 16 ∧ ∀ x, x ∈ t.2 → 0 ≤ x ∧ x ≤ 65535
  globals : p.globals.length ≤ 32 ∧ ∀ x, x ∈ p.globals → 0 ≤ x ∧ x ≤ 65535
  funcs : p.funcs.length ≤ 32 ∧ ∀ f, f ∈ p.funcs → f.Lo
theorem asK_lo {l : List Nat} {n : Nat} (h : ∀ a, a ∈ l → a ≤ n) : ∀ x, x ∈ asK l → 0 ≤ x ∧ x ≤ (n : Int) := fun x hx => by
  obtain ⟨a, ha, rfl⟩ := List.mem_map.1 hx
  have := h a ha
  exact ⟨Int.natCast_nonneg _, Int.ofNat_le.2 this⟩
/-- A word's size. -/
theorem wordR_lt (fr : Nat) : ∀ (l : List Int) (q i n : Nat), i ≤ 9 → n < 2 ^ (7 * i) → Al (fun m => m < 18446744073709551616) (wordR fr l q i n)
  | [], _, _, _, _, _ => Al.bad
  | b :: l, q, i, n, hi, hn => by
    unfold wordR
    split
    · exact Al.bad
    · rename_i hc
      have hx : n + b.toNat % 128 * 2 ^ (7 * i) < 2 ^ (7 * i + 7) := by
        have h1 : b.toNat % 128 < 128 := Nat.mod_lt _ (by omega)
        have h2 : (b.toNat % 128 + 1) * 2 ^ (7 * i) ≤ 128 * 2 ^ (7 * i) := Nat.mul_le_mul_right _ h1
        rw [Nat.pow_add, Nat.add_mul] at *
        omega
      have hx64 : n + b.toNat % 128 * 2 ^ (7 * i) < 18446744073709551616 := by
        by_cases h9 : i = 9
        · subst h9
          have h1 : b.toNat ≤ 1 := by omega
          have h2 : b.toNat % 128 ≤ 1 := by omega
          have h3 := Nat.mul_le_mul_right (2 ^ (7 * 9)) h2
          have h4 : (2 : Nat) ^ (7 * 9) = 9223372036854775808 := by decide
          omega
        · have h5 : (2 : Nat) ^ (7 * i + 7) ≤ 2 ^ 63 := Nat.pow_le_pow_right (by omega) (by omega)
          have h4 : (2 : Nat) ^ 63 = 9223372036854775808 := by decide
          omega
      split
      · exact Al.ok hx64
      · rename_i hb
        exact wordR_lt fr l _ _ _ (by omega) (by rw [Nat.mul_add]; exact hx)
theorem Al.word (t : List Int) (p : Nat) : Al (fun m => m < 18446744073709551616) (pword t p) := wordR_lt _ _ _ _ _ (by omega) (by simp)
theorem Al.ins (t : List Int) (p : Nat) : Al PIns.Lo (pins t p) := Al.bind (Al.list (fun p => Al.num t 65535 1 p) _ _) fun l _ hl => Al.bind (Al.word _ _) fun imm _ hi => Al.bind (Al.num _ _ _ _) fun n _ hn => Al.bind (Al.list (fun p => Al.num t 65535 1 p) _ _) fun li _ hli => by
  have key : ∀ k, 0 ≤ ((l.getD k 0 : Nat) : Int) ∧ ((l.getD k 0 : Nat) : Int) ≤ 65535 := fun k => by
    have : l.getD k 0 ≤ 65535 := by
      rw [List.getD_eq_getElem?_getD]
      cases h : l[k]? with
      | none => simp
      | some a => simp only [Option.getD_some]; exact hl.2 a (List.mem_of_getElem? h)
    omega
  exact Al.ok ⟨key 0, key 1, key 2, key 3, hi, by simp only [asK, List.length_map]; omega, asK_lo (n := 65535) hli.2⟩
theorem Al.func (t : List Int) (p : Nat) : Al PFunc.Lo (pfunc t p) := Al.bind (Al.num _ _ _ _) fun a _ ha => Al.bind (Al.kinds _ _ _) fun s _ hs => Al.bind (Al.kinds _ _ _) fun r _ hr => Al.bind (Al.num _ _ _ _) fun n _ hn => Al.bind (Al.list (fun p => Al.ins t p) _ _) fun c _ hc =>
  Al.ok ⟨⟨by simp only; omega, by simp only; omega⟩, ⟨by simp only [asK, List.length_map]; omega, asK_lo (n := 65535) hs.2⟩, ⟨by simp only [asK, List.length_map]; omega, asK_lo (n := 65535) hr.2⟩, ⟨by simp only; omega, hc.2⟩⟩
theorem Al.prog (t : List Int) : Al PProg.Lo (pprog t) := Al.bind (Al.num _ _ _ _) fun n _ hn => Al.bind (Al.list (Q := fun t : Bool × List Int => t.2.length ≤ 16 ∧ ∀ x, x ∈ t.2 → 0 ≤ x ∧ x ≤ 65535) (fun p => Al.bind (Al.any _) fun b _ _ => Al.bind (Al.kinds _ _ _) fun l _ hl => Al.ok ⟨by simp only [asK, List.length_map]; omega, asK_lo (n := 65535) hl.2⟩) _ _) fun ts _ hts =>
  Al.bind (Al.kinds _ _ _) fun g _ hg => Al.bind (Al.num _ _ _ _) fun m _ hm => Al.bind (Al.list (fun p => Al.func t p) _ _) fun fs _ hfs => by
    split
    · exact Al.bad
    · exact Al.ok ⟨⟨by simp only; omega, hts.2⟩, ⟨by simp only [asK, List.length_map]; omega, asK_lo (n := 65535) hg.2⟩, ⟨by simp only; omega, hfs.2⟩⟩
theorem pdec_lo (t : List Int) : (pdec t).prog.Lo := by
  have emp : PProg.Lo ⟨[], [], []⟩ := ⟨⟨by simp, by simp⟩, ⟨by simp, by simp⟩, ⟨by simp, by simp⟩⟩
  unfold pdec
  split
  · exact emp
  · cases h : pprog t with
    | ok p n => exact Al.prog t p n h
    | bad e n => exact emp
theorem PProg.Lo.sz {p : PProg} (h : p.Lo) : p.Sz := by
  obtain ⟨⟨a, b⟩, ⟨c, d⟩, e, f⟩ := h
  refine ⟨by omega, by omega, by omega, fun t ht => by have := (b t ht).1; omega, fun g hg => ?_⟩
  obtain ⟨_, ⟨s, _⟩, ⟨r, _⟩, ⟨q, w⟩⟩ := f g hg
  exact ⟨by omega, by omega, by omega, fun i hi => by have := (w i hi).len; show i.list.length ≤ _; omega⟩
end Go.Proofs.Ytfagngiceofoeaa.Cd

namespace Go.Proofs.Ytfagngiceofoeaa.Cd
open Go Go.AM Go.Proofs.Ytfagngiceofoeaa.AmGC
attribute [local irreducible] AM.wp AM.wpIs AM.wpTr AM.opI AM.gI AM.cI AM.trI AM.callI AM.fnI AM.trG AM.trOp AM.trCall AM.seqC AM.loopI
set_option maxRecDepth 100000
set_option linter.unusedVariables false
set_option linter.unusedSimpArgs false

/-! What a program's bytes are. -/
def eK (l : List Int) : List Int := wordB l.length ++ l.flatMap fun x => wordB x.toNat
def eI (i : PIns) : List Int := wordB i.op.toNat ++ (wordB i.a.toNat ++ (wordB i.b.toNat ++ (wordB i.c.toNat ++ (wordB i.imm ++ eK i.list))))
def eT (t : Bool × List Int) : List Int := wordB (if t.1 then 1 else 0) ++ eK t.2
def eF (f : PFunc) : List Int := wordB f.params.toNat ++ (eK f.slots ++ (eK f.results ++ (wordB f.code.length ++ f.code.flatMap eI)))
def eP (p : PProg) : List Int := wordB p.types.length ++ (p.types.flatMap eT ++ (eK p.globals ++ (wordB p.funcs.length ++ p.funcs.flatMap eF)))

/-- A step of writing: where it goes well, and what it lays. -/
structure Lays (g : WS → WS) (C : Prop) (bs : List Int) : Prop where
  ok : ∀ s, (g s).2 = 0 ↔ s.2 = 0 ∧ C
  out : ∀ s, (g s).2 = 0 → (g s).1 = s.1 ++ bs
theorem Lays.comp {g g' : WS → WS} {C C' : Prop} {bs bs' : List Int} (a : Lays g C bs) (b : Lays g' C' bs') : Lays (fun s => g' (g s)) (C ∧ C') (bs ++ bs') :=
  ⟨fun s => by rw [b.ok, a.ok]; exact ⟨fun ⟨⟨x, y⟩, z⟩ => ⟨x, y, z⟩, fun ⟨x, y, z⟩ => ⟨⟨x, y⟩, z⟩⟩,
    fun s h => by rw [b.out _ h, a.out _ ((b.ok _).1 h).1, List.append_assoc]⟩
theorem Lays.num (n : Int) : Lays (fun s => wnum s n) (0 ≤ n ∧ n ≤ 65535) (wordB n.toNat) := by
  constructor
  · intro s
    show (wnum s n).2 = 0 ↔ _
    unfold wnum
    split
    · rename_i h
      simp only [wfail]
      constructor
      · intro q
        split at q
        · cases q
        · rename_i h0; exact absurd q h0
      · intro q; omega
    · rename_i h
      simp only [wword]
      exact ⟨fun q => ⟨q, by omega⟩, fun q => q.1⟩
  · intro s h
    show (wnum s n).1 = _
    have h : (wnum s n).2 = 0 := h
    unfold wnum at h ⊢
    split at h
    · simp only [wfail] at h
      split at h
      · cases h
      · rename_i h0; exact absurd h h0
    · rename_i hn; rw [if_neg hn]; rfl
theorem Lays.word (n : Nat) : Lays (fun s => wword s n) True (wordB n) := ⟨fun s => by simp [wword], fun s _ => rfl⟩
theorem Lays.count (n : Nat) (lim : Int) (hl : lim ≤ 65535) : Lays (fun s => wcount s n lim) ((n : Int) ≤ lim) (wordB n) := by
  by_cases h : lim < n
  · have bad : ∀ s, (wcount s n lim).2 ≠ 0 := fun s => by
      unfold wcount
      rw [if_pos h]
      intro q
      have := ((Lays.num (min (n : Int) 65535)).ok (wfail s 16)).1 q
      have := this.1
      simp only [wfail] at this
      split at this
      · cases this
      · rename_i h0; exact h0 this
    exact ⟨fun s => ⟨fun q => absurd q (bad s), fun q => by omega⟩, fun s q => absurd q (bad s)⟩
  · have hm : min (n : Int) 65535 = n := by omega
    have e : ∀ s, wcount s n lim = wnum s n := fun s => by unfold wcount; rw [if_neg h, hm]
    have L := Lays.num (n : Int)
    refine ⟨fun s => ?_, fun s q => ?_⟩
    · simp only [e]
      rw [L.ok]
      exact ⟨fun q => ⟨q.1, by omega⟩, fun q => ⟨q.1, by omega, by omega⟩⟩
    · simp only [e] at q ⊢
      exact L.out s q
theorem Lays.fold {α : Type} {g : WS → α → WS} {C : α → Prop} {bs : α → List Int} (h : ∀ a, Lays (fun s => g s a) (C a) (bs a)) : ∀ l : List α, Lays (fun s => l.foldl g s) (∀ a, a ∈ l → C a) (l.flatMap bs)
  | [] => ⟨fun s => by simp, fun s _ => by simp⟩
  | a :: l => by
    have := (h a).comp (Lays.fold h l)
    refine ⟨fun s => ?_, fun s q => ?_⟩
    · have h1 := this.ok s
      rw [List.foldl_cons, h1]
      simp
    · have h1 := this.out s q
      simpa using h1
theorem Lays.congr {g g' : WS → WS} {C C' : Prop} {bs bs' : List Int} (a : Lays g C bs) (e1 : ∀ s, g' s = g s) (e2 : C' ↔ C) (e3 : bs' = bs) : Lays g' C' bs' := by
  subst e3
  exact ⟨fun s => by rw [e1, e2]; exact a.ok s, fun s h => by rw [e1] at h ⊢; exact a.out s h⟩
theorem Lays.kinds (l : List Int) (lim : Nat) (hl : lim ≤ 65535) : Lays (fun s => wkinds s l lim) (l.length ≤ lim ∧ ∀ x, x ∈ l → 0 ≤ x ∧ x ≤ 65535) (eK l) :=
  ((Lays.count l.length lim (by omega)).comp (Lays.fold (fun n => Lays.num n) l)).congr (fun s => rfl) (by simp) rfl
theorem Lays.ins (i : PIns) (hi : i.imm ≤ 18446744073709551615) : Lays (fun s => winsP s i) i.Lo (eI i) := by
  refine (((((Lays.num i.op).comp (Lays.num i.a)).comp (Lays.num i.b)).comp (Lays.num i.c)).comp ((Lays.word i.imm).comp (Lays.kinds i.list 24 (by omega)))).congr (fun s => rfl) ?_ ?_
  · constructor
    · rintro ⟨a, b, c, d, e, f, g⟩
      exact ⟨⟨⟨⟨a, b⟩, c⟩, d⟩, trivial, f, g⟩
    · rintro ⟨⟨⟨⟨a, b⟩, c⟩, d⟩, _, f, g⟩
      exact ⟨a, b, c, d, by omega, f, g⟩
  · simp only [eI, List.append_assoc]
theorem Lays.type (t : Bool × List Int) : Lays (fun s => wtype s t) (t.2.length ≤ 16 ∧ ∀ x, x ∈ t.2 → 0 ≤ x ∧ x ≤ 65535) (eT t) := by
  refine ((Lays.num (if t.1 then 1 else 0)).comp (Lays.kinds t.2 16 (by omega))).congr (fun s => rfl) ?_ ?_
  · cases t.1 <;> simp
  · unfold eT
    cases t.1 <;> rfl
theorem foldl_congr_mem {α β : Type} {f g : β → α → β} (l : List α) (h : ∀ b a, a ∈ l → f b a = g b a) : ∀ s, l.foldl f s = l.foldl g s := by
  induction l with
  | nil => exact fun _ => rfl
  | cons a l ih => intro s; rw [List.foldl_cons, List.foldl_cons, h s a List.mem_cons_self]; exact ih (fun b a ha => h b a (List.mem_cons_of_mem _ ha)) _
theorem Lays.foldM {α : Type} {g : WS → α → WS} {C : α → Prop} {bs : α → List Int} : ∀ l : List α, (∀ a, a ∈ l → Lays (fun s => g s a) (C a) (bs a)) → Lays (fun s => l.foldl g s) (∀ a, a ∈ l → C a) (l.flatMap bs)
  | [], _ => ⟨fun s => by simp, fun s _ => by simp⟩
  | a :: l, h => by
    have := (h a List.mem_cons_self).comp (Lays.foldM l fun b hb => h b (List.mem_cons_of_mem _ hb))
    refine ⟨fun s => ?_, fun s q => ?_⟩
    · have h1 := this.ok s
      rw [List.foldl_cons, h1]
      simp
    · have h1 := this.out s q
      simpa using h1
theorem Lays.func (f : PFunc) (hf : f.Ok) : Lays (fun s => wfunc s f) f.Lo (eF f) := by
  refine ((((Lays.num f.params).comp (Lays.kinds f.slots 32 (by omega))).comp (Lays.kinds f.results 32 (by omega))).comp ((Lays.count f.code.length 256 (by omega)).comp (Lays.foldM f.code fun i hi => Lays.ins i (hf.code i hi).imm))).congr (fun s => rfl) ?_ ?_
  · constructor
    · rintro ⟨a, b, c, d, e⟩
      exact ⟨⟨⟨a, b⟩, c⟩, by omega, e⟩
    · rintro ⟨⟨⟨a, b⟩, c⟩, d, e⟩
      exact ⟨a, b, c, by omega, e⟩
  · simp only [eF, List.append_assoc]
theorem Lays.prog (p : PProg) (hp : p.Ok) : ((wprog p).2 = 0 ↔ p.Lo) ∧ ((wprog p).2 = 0 → (wprog p).1 = eP p) := by
  have L := ((((Lays.count p.types.length 32 (by omega)).comp (Lays.fold (fun t => Lays.type t) p.types)).comp (Lays.kinds p.globals 32 (by omega))).comp ((Lays.count p.funcs.length 32 (by omega)).comp (Lays.foldM p.funcs fun f hf => Lays.func f (hp.funcs f hf))))
  have e : ∀ s : WS, (fun s => List.foldl wfunc (wcount (wkinds (List.foldl wtype (wcount s p.types.length 32) p.types) p.globals 32) p.funcs.length 32) p.funcs) s = _ := fun s => rfl
  have h1 := L.ok ([], 0)
  have h2 := L.out ([], 0)
  refine ⟨?_, fun h => ?_⟩
  · have : (wprog p).2 = 0 ↔ _ := h1
    rw [this]
    constructor
    · rintro ⟨_, ⟨⟨a, b⟩, c⟩, d, e⟩
      exact ⟨⟨by omega, b⟩, c, by omega, e⟩
    · rintro ⟨⟨a, b⟩, c, d, e⟩
      exact ⟨rfl, ⟨⟨by omega, b⟩, c⟩, by omega, e⟩
  · have := h2 h
    rw [List.nil_append] at this
    simp only [eP, ← List.append_assoc] at this ⊢
    exact this
end Go.Proofs.Ytfagngiceofoeaa.Cd

namespace Go.Proofs.Ytfagngiceofoeaa.Cd
open Go Go.AM Go.Proofs.Ytfagngiceofoeaa.AmGC
attribute [local irreducible] AM.wp AM.wpIs AM.wpTr AM.opI AM.gI AM.cI AM.trI AM.callI AM.fnI AM.trG AM.trOp AM.trCall AM.seqC AM.loopI
set_option maxRecDepth 100000
set_option linter.unusedVariables false
set_option linter.unusedSimpArgs false

/-! There: what is written is read. -/
theorem wordR_enc (fr : Nat) (rest : List Int) (n : Nat) : ∀ (acc i q : Nat), (0 < i → 0 < n) → n * 2 ^ (7 * i) < 18446744073709551616 → i ≤ 9 →
    wordR fr (wordB n ++ rest) q i acc = .ok (acc + n * 2 ^ (7 * i)) (q + (wordB n).length) := by
  induction n using Nat.strongRecOn with
  | ind n ih =>
    intro acc i q hi hn h9
    by_cases h : 127 < n
    · have hi9 : i ≠ 9 := by
        intro e; subst e
        have h4 : (2 : Nat) ^ (7 * 9) = 9223372036854775808 := by decide
        omega
      have hb : ((n % 128 + 128 : Nat) : Int).toNat % 128 = n % 128 := by omega
      have hp : (2 : Nat) ^ (7 * (i + 1)) = 128 * 2 ^ (7 * i) := by rw [Nat.mul_add, Nat.pow_add]; omega
      have hdm : n % 128 * 2 ^ (7 * i) + n / 128 * (128 * 2 ^ (7 * i)) = n * 2 ^ (7 * i) := by
        rw [← Nat.mul_assoc, ← Nat.add_mul]; congr 1; omega
      rw [wordB_step h, List.cons_append, wordR, if_neg (by omega), if_neg (by omega), hb]
      rw [ih (n / 128) (by omega) _ _ _ (fun _ => by omega) (by rw [hp]; omega) (by omega)]
      rw [hp, List.length_cons]
      congr 1 <;> omega
    · have hc : ¬ ((i = 9 ∧ 1 < (n : Int)) ∨ (0 < i ∧ (n : Int) = 0)) := by
        rintro (⟨rfl, h2⟩ | ⟨h1, h2⟩)
        · have h4 : (2 : Nat) ^ (7 * 9) = 9223372036854775808 := by decide
          omega
        · have := hi h1; omega
      rw [wordB_small (by omega), List.cons_append, List.nil_append, wordR, if_neg hc, if_pos (by omega)]
      have : (n : Int).toNat % 128 = n := by omega
      rw [this]; rfl

def Rds {α : Type} (f : List Int → Nat → PR α) (a : α) (bs : List Int) : Prop := ∀ t p rest, t.drop p = bs ++ rest → f t p = .ok a (p + bs.length)
theorem drop_app {t bs rest : List Int} {p : Nat} (h : t.drop p = bs ++ rest) : t.drop (p + bs.length) = rest := by
  rw [← List.drop_drop, h, List.drop_left]
theorem Rds.bind {α β : Type} {f : List Int → Nat → PR α} {g : α → List Int → Nat → PR β} {a : α} {b : β} {bs cs : List Int} (h : Rds f a bs) (k : Rds (g a) b cs) : Rds (fun t p => (f t p).bind fun a q => g a t q) b (bs ++ cs) := by
  intro t p rest hd
  rw [List.append_assoc] at hd
  show (f t p).bind _ = _
  rw [h t p _ hd, PR.ok_bind, k t _ rest (drop_app hd), List.length_append]
  congr 1; omega
theorem Rds.pure {α : Type} (a : α) : Rds (fun _ p => .ok a p) a [] := fun t p rest h => rfl
theorem Rds.word {n : Nat} (h : n < 18446744073709551616) : Rds pword n (wordB n) := by
  intro t p rest hd
  unfold pword
  rw [hd, wordR_enc p rest n 0 0 p (by omega) (by simpa using h) (by omega)]
  simp
theorem Rds.num {n lim : Nat} {e : Int} (h : n ≤ lim) (hl : lim ≤ 65535) : Rds (fun t p => pnum t lim e p) n (wordB n) := by
  intro t p rest hd
  show (pword t p).bind _ = _
  rw [Rds.word (by omega) t p rest hd, PR.ok_bind, if_neg (by omega)]
theorem Rds.list {α : Type} {f : List Int → Nat → PR α} {e : α → List Int} : ∀ l : List α, (∀ a, a ∈ l → Rds f a (e a)) → Rds (fun t p => plist (f t) l.length p) l (l.flatMap e)
  | [], _ => fun t p rest h => rfl
  | a :: l, h => by
    have := Rds.bind (g := fun a t q => (plist (f t) l.length q).bind fun l p => .ok (a :: l) p) (h a List.mem_cons_self) (Rds.bind (g := fun l t q => .ok (a :: l) q) (Rds.list l fun b hb => h b (List.mem_cons_of_mem _ hb)) (Rds.pure (a :: l)))
    intro t p rest hd
    have h1 := this t p rest (by simpa using hd)
    simpa [plist_succ] using h1
theorem asK_toNat {l : List Int} (h : ∀ x, x ∈ l → 0 ≤ x ∧ x ≤ 65535) : asK (l.map Int.toNat) = l := by
  unfold asK
  rw [List.map_map]
  conv => rhs; rw [← List.map_id l]
  apply List.map_congr_left
  intro x hx
  have := h x hx
  show Int.ofNat x.toNat = x
  rw [Int.ofNat_eq_natCast]; omega
theorem Rds.kinds {l : List Int} {lim : Nat} (hl : l.length ≤ lim) (hlim : lim ≤ 65535) (h : ∀ x, x ∈ l → 0 ≤ x ∧ x ≤ 65535) : Rds (fun t p => pkinds t lim p) (l.map Int.toNat) (eK l) := by
  have := Rds.bind (g := fun n t q => plist (pnum t 65535 1) n q) (Rds.num (e := 16) hl hlim) (cs := l.flatMap fun x => wordB x.toNat) (b := l.map Int.toNat) (by
    have := Rds.list (f := fun t p => pnum t 65535 1 p) (e := wordB) (l.map Int.toNat) (fun a ha => by
      obtain ⟨x, hx, rfl⟩ := List.mem_map.1 ha
      have := h x hx
      exact Rds.num (by omega) (by omega))
    rw [List.length_map, List.flatMap_map] at this
    exact this)
  exact this
def pinsR2 (t : List Int) (a b c d : Nat) (p : Nat) : PR PIns := (pword t p).bind fun imm q => (pkinds t 24 q).bind fun li p => .ok (PIns.mk a b c d imm (asK li)) p
theorem pins_eq2 (t : List Int) (p : Nat) : pins t p = (pnum t 65535 1 p).bind fun a p => (pnum t 65535 1 p).bind fun b p => (pnum t 65535 1 p).bind fun c p => (pnum t 65535 1 p).bind fun d p => pinsR2 t a b c d p := by
  rw [pins_eq]
  unfold pinsR pinsR2 pkinds
  simp only [PR.bind_bind]
theorem Rds.ins {i : PIns} (h : i.Lo) : Rds pins i (eI i) := by
  have n : ∀ {x : Int}, 0 ≤ x ∧ x ≤ 65535 → Rds (fun t p => pnum t 65535 1 p) x.toNat (wordB x.toNat) := fun hx => Rds.num (by omega) (by omega)
  have k5 : Rds (fun t p => pinsR2 t i.op.toNat i.a.toNat i.b.toNat i.c.toNat p) _ _ := Rds.bind (g := fun imm t q => (pkinds t 24 q).bind fun li p => .ok (PIns.mk i.op.toNat i.a.toNat i.b.toNat i.c.toNat imm (asK li)) p) (Rds.word h.imm)
            (Rds.bind (g := fun li t q => .ok (PIns.mk i.op.toNat i.a.toNat i.b.toNat i.c.toNat i.imm (asK li)) q) (Rds.kinds h.len (by omega) h.list) (Rds.pure _))
  have key := Rds.bind (g := fun a t q => (pnum t 65535 1 q).bind fun b p => (pnum t 65535 1 p).bind fun c p => (pnum t 65535 1 p).bind fun d p => pinsR2 t a b c d p) (n h.op)
    (Rds.bind (g := fun b t q => (pnum t 65535 1 q).bind fun c p => (pnum t 65535 1 p).bind fun d p => pinsR2 t i.op.toNat b c d p) (n h.a)
      (Rds.bind (g := fun c t q => (pnum t 65535 1 q).bind fun d p => pinsR2 t i.op.toNat i.a.toNat c d p) (n h.b)
        (Rds.bind (g := fun d t q => pinsR2 t i.op.toNat i.a.toNat i.b.toNat d q) (n h.c) k5)))
  have e : (PIns.mk i.op.toNat i.a.toNat i.b.toNat i.c.toNat i.imm (asK (i.list.map Int.toNat))) = i := by
    rw [asK_toNat h.list]
    have h1 := h.op; have h2 := h.a; have h3 := h.b; have h4 := h.c
    have q : ∀ {x : Int}, 0 ≤ x → ((x.toNat : Nat) : Int) = x := fun h => by omega
    rw [q h1.1, q h2.1, q h3.1, q h4.1]
  rw [e, List.append_nil] at key
  intro t p rest hd
  rw [pins_eq2]
  exact key t p rest hd
theorem Rds.type {b : Bool × List Int} (h : b.2.length ≤ 16 ∧ ∀ x, x ∈ b.2 → 0 ≤ x ∧ x ≤ 65535) : Rds ptype b (eT b) := by
  have key := Rds.bind (g := fun (n : Nat) t q => (pkinds t 16 q).bind fun l p => .ok (decide ((n : Int) = 1), asK l) p) (Rds.num (n := if b.1 then 1 else 0) (lim := 1) (e := 8) (by split <;> omega) (by omega)) (Rds.bind (g := fun l t q => .ok (decide (((if b.1 then 1 else 0 : Nat) : Int) = 1), asK l) q) (Rds.kinds h.1 (by omega) h.2) (Rds.pure _))
  have e : (decide (((if b.1 then 1 else 0 : Nat) : Int) = 1), asK (b.2.map Int.toNat)) = b := by
    rw [asK_toNat h.2]
    obtain ⟨x, l⟩ := b
    cases x <;> rfl
  rw [e, List.append_nil] at key
  exact key
theorem Rds.func {f : PFunc} (h : f.Lo) : Rds pfunc f (eF f) := by
  have key := Rds.bind (g := fun (a : Nat) t q => (pkinds t 32 q).bind fun s p => (pkinds t 32 p).bind fun r p => (pnum t 256 16 p).bind fun n p => (plist (pins t) n p).bind fun c p => .ok (PFunc.mk a (asK s) (asK r) c) p) (Rds.num (n := f.params.toNat) (lim := 65535) (e := 1) (by have := h.params; omega) (by omega))
    (Rds.bind (g := fun s t q => (pkinds t 32 q).bind fun r p => (pnum t 256 16 p).bind fun n p => (plist (pins t) n p).bind fun c p => .ok (PFunc.mk f.params.toNat (asK s) (asK r) c) p) (Rds.kinds h.slots.1 (by omega) h.slots.2)
      (Rds.bind (g := fun r t q => (pnum t 256 16 q).bind fun n p => (plist (pins t) n p).bind fun c p => .ok (PFunc.mk f.params.toNat (asK (f.slots.map Int.toNat)) (asK r) c) p) (Rds.kinds h.results.1 (by omega) h.results.2)
        (Rds.bind (g := fun n t q => (plist (pins t) n q).bind fun c p => .ok (PFunc.mk f.params.toNat (asK (f.slots.map Int.toNat)) (asK (f.results.map Int.toNat)) c) p) (Rds.num (n := f.code.length) (lim := 256) (e := 16) h.code.1 (by omega))
          (Rds.bind (g := fun c t q => .ok (PFunc.mk f.params.toNat (asK (f.slots.map Int.toNat)) (asK (f.results.map Int.toNat)) c) q) (Rds.list f.code fun i hi => Rds.ins (h.code.2 i hi)) (Rds.pure _)))))
  have e : PFunc.mk f.params.toNat (asK (f.slots.map Int.toNat)) (asK (f.results.map Int.toNat)) f.code = f := by
    rw [asK_toNat h.slots.2, asK_toNat h.results.2]
    have : ((f.params.toNat : Nat) : Int) = f.params := by have := h.params; omega
    rw [this]
  rw [e, List.append_nil] at key
  exact key
/-- All but the end. -/
def pbody (t : List Int) (p : Nat) : PR PProg := (pnum t 32 16 p).bind fun n p => (plist (ptype t) n p).bind fun ts p => (pkinds t 32 p).bind fun g p => (pnum t 32 16 p).bind fun m p => (plist (pfunc t) m p).bind fun fs p => .ok ⟨ts, asK g, fs⟩ p
theorem pprog_eq (t : List Int) : pprog t = (pbody t 0).bind fun a p => if p < t.length then .bad 7 p else .ok a p := by
  unfold pprog pbody
  simp only [PR.bind_bind, PR.ok_bind]
theorem Rds.prog {p : PProg} (h : p.Lo) : Rds pbody p (eP p) := by
  have key := Rds.bind (g := fun n t q => (plist (ptype t) n q).bind fun ts p => (pkinds t 32 p).bind fun g p => (pnum t 32 16 p).bind fun m p => (plist (pfunc t) m p).bind fun fs p => .ok (PProg.mk ts (asK g) fs) p) (Rds.num (n := p.types.length) (lim := 32) (e := 16) h.types.1 (by omega))
    (Rds.bind (g := fun ts t q => (pkinds t 32 q).bind fun g p => (pnum t 32 16 p).bind fun m p => (plist (pfunc t) m p).bind fun fs p => .ok (PProg.mk ts (asK g) fs) p) (Rds.list p.types fun b hb => Rds.type (h.types.2 b hb))
      (Rds.bind (g := fun g t q => (pnum t 32 16 q).bind fun m q => (plist (pfunc t) m q).bind fun fs q => .ok (PProg.mk p.types (asK g) fs) q) (Rds.kinds h.globals.1 (by omega) h.globals.2)
        (Rds.bind (g := fun m t q => (plist (pfunc t) m q).bind fun fs q => .ok (PProg.mk p.types (asK (p.globals.map Int.toNat)) fs) q) (Rds.num (n := p.funcs.length) (lim := 32) (e := 16) h.funcs.1 (by omega))
          (Rds.bind (g := fun fs t q => .ok (PProg.mk p.types (asK (p.globals.map Int.toNat)) fs) q) (Rds.list p.funcs fun f hf => Rds.func (h.funcs.2 f hf)) (Rds.pure _)))))
  rw [asK_toNat h.globals.2, List.append_nil] at key
  exact key
theorem there {p : PProg} (h : p.Lo) : pprog (eP p) = .ok p (eP p).length := by
  rw [pprog_eq, Rds.prog h (eP p) 0 [] (by simp), PR.ok_bind, Nat.zero_add, if_neg (by omega)]
theorem thereMore {p : PProg} (h : p.Lo) (x : Int) : pprog (eP p ++ [x]) = .bad 7 (eP p).length := by
  rw [pprog_eq, Rds.prog h (eP p ++ [x]) 0 [x] (by simp), PR.ok_bind, Nat.zero_add, if_pos (by simp)]
end Go.Proofs.Ytfagngiceofoeaa.Cd

namespace Go.Proofs.Ytfagngiceofoeaa.Cd
open Go Go.AM Go.Proofs.Ytfagngiceofoeaa.AmGC
attribute [local irreducible] AM.wp AM.wpIs AM.wpTr AM.opI AM.gI AM.cI AM.trI AM.callI AM.fnI AM.trG AM.trOp AM.trCall AM.seqC AM.loopI
set_option maxRecDepth 100000
set_option linter.unusedVariables false
set_option linter.unusedSimpArgs false

/-! Back: what is read is what would be written; and what is cut ends too early. -/
def Gd {α : Type} (f : List Int → Nat → PR α) (Q : α → List Int → Prop) : Prop := ∀ t : List Int, (∀ b, b ∈ t → 0 ≤ b ∧ b ≤ 255) → ∀ p a q, p ≤ t.length → f t p = .ok a q →
  q ≤ t.length ∧ p ≤ q ∧ (∃ bs, t.drop p = bs ++ t.drop q ∧ Q a bs) ∧ ∀ n, p ≤ n → n ≤ t.length → (q ≤ n → f (t.take n) p = .ok a q) ∧ (n < q → ∃ r, r ≤ n ∧ f (t.take n) p = .bad 7 r)
theorem Gd.pure {α : Type} {a : α} {R : α → List Int → Prop} (h : R a []) : Gd (fun _ p => .ok a p) R := by
  intro t hb p b q hp e
  cases e
  exact ⟨hp, Nat.le_refl _, ⟨[], rfl, h⟩, fun n h1 h2 => ⟨fun _ => rfl, fun h3 => by omega⟩⟩
theorem Gd.bind {α β : Type} {f : List Int → Nat → PR α} {g : α → List Int → Nat → PR β} {Q : α → List Int → Prop} {R : β → List Int → Prop} (h : Gd f Q) (k : ∀ a bs, Q a bs → Gd (g a) (fun b cs => R b (bs ++ cs))) : Gd (fun t p => (f t p).bind fun a q => g a t q) R := by
  intro t hb p b q hp e
  have e : (f t p).bind (fun a q => g a t q) = .ok b q := e
  cases hf : f t p with
  | bad e2 n => rw [hf] at e; cases e
  | ok a q1 =>
    rw [hf, PR.ok_bind] at e
    obtain ⟨h1, h2, ⟨bs, h3, h4⟩, h5⟩ := h t hb p a q1 hp hf
    obtain ⟨g1, g2, ⟨cs, g3, g4⟩, g5⟩ := k a bs h4 t hb q1 b q h1 e
    refine ⟨g1, by omega, ⟨bs ++ cs, by rw [h3, g3, List.append_assoc], g4⟩, fun n n1 n2 => ?_⟩
    obtain ⟨u1, u2⟩ := h5 n n1 n2
    refine ⟨fun hq => ?_, fun hq => ?_⟩
    · show (f (t.take n) p).bind _ = _
      rw [u1 (by omega), PR.ok_bind]
      exact (g5 n (by omega) n2).1 hq
    · by_cases hn : q1 ≤ n
      · obtain ⟨r, r1, r2⟩ := (g5 n hn n2).2 hq
        refine ⟨r, r1, ?_⟩
        show (f (t.take n) p).bind _ = _
        rw [u1 hn, PR.ok_bind]; exact r2
      · obtain ⟨r, r1, r2⟩ := u2 (by omega)
        refine ⟨r, r1, ?_⟩
        show (f (t.take n) p).bind _ = _
        rw [r2]; rfl
theorem Gd.mono {α : Type} {f : List Int → Nat → PR α} {Q R : α → List Int → Prop} (h : Gd f Q) (k : ∀ a bs, Q a bs → R a bs) : Gd f R := by
  intro t hb p a q hp e
  obtain ⟨h1, h2, ⟨bs, h3, h4⟩, h5⟩ := h t hb p a q hp e
  exact ⟨h1, h2, ⟨bs, h3, k _ _ h4⟩, h5⟩

theorem wordR_back (fr : Nat) : ∀ (l : List Int) (q i acc m q' : Nat), (∀ b, b ∈ l → 0 ≤ b ∧ b ≤ 255) → wordR fr l q i acc = .ok m q' →
    ∃ n l', m = acc + n * 2 ^ (7 * i) ∧ l = wordB n ++ l' ∧ q' = q + (wordB n).length ∧ (0 < i → 0 < n)
  | [], q, i, acc, m, q', _, e => by cases e
  | b :: l, q, i, acc, m, q', hb, e => by
    obtain ⟨hb0, hb1⟩ := hb b List.mem_cons_self
    unfold wordR at e
    split at e
    · cases e
    · rename_i hc
      split at e
      · rename_i h128
        simp only [PR.ok.injEq] at e
        obtain ⟨rfl, rfl⟩ := e
        have h1 : b.toNat % 128 = b.toNat := by omega
        have h2 : ((b.toNat : Nat) : Int) = b := by omega
        refine ⟨b.toNat, l, by rw [h1], by rw [wordB_small (by omega), h2]; rfl, by rw [wordB_small (by omega)]; rfl, fun hi => by omega⟩
      · rename_i h128
        obtain ⟨n, l', e1, e2, e3, e4⟩ := wordR_back fr l _ _ _ _ _ (fun x hx => hb x (List.mem_cons_of_mem _ hx)) e
        have hn := e4 (by omega)
        have hd : (b.toNat % 128 + 128 * n) / 128 = n := by omega
        have hm : (b.toNat % 128 + 128 * n) % 128 = b.toNat % 128 := by omega
        have hp : (2 : Nat) ^ (7 * (i + 1)) = 128 * 2 ^ (7 * i) := by rw [Nat.mul_add, Nat.pow_add]; omega
        have hw : wordB (b.toNat % 128 + 128 * n) = b :: wordB n := by
          rw [wordB_step (by omega), hd, hm]
          have : ((b.toNat % 128 + 128 : Nat) : Int) = b := by omega
          rw [this]
        refine ⟨b.toNat % 128 + 128 * n, l', ?_, ?_, ?_, fun _ => by omega⟩
        · rw [e1, hp, Nat.add_mul, ← Nat.mul_assoc, Nat.mul_comm n 128]; omega
        · rw [hw, e2]; rfl
        · rw [hw, e3, List.length_cons]; omega
theorem wordR_trunc (fr : Nat) : ∀ (l : List Int) (q i acc m q' k : Nat), wordR fr l q i acc = .ok m q' → q ≤ q' ∧ q' ≤ q + l.length ∧ (q' ≤ q + k → wordR fr (l.take k) q i acc = .ok m q') ∧ (q + k < q' → wordR fr (l.take k) q i acc = .bad 7 fr)
  | [], q, i, acc, m, q', k, e => by cases e
  | b :: l, q, i, acc, m, q', k, e => by
    unfold wordR at e
    split at e
    · cases e
    · rename_i hc
      split at e
      · rename_i h128
        simp only [PR.ok.injEq] at e
        obtain ⟨rfl, rfl⟩ := e
        refine ⟨by omega, by simp, fun h => ?_, fun h => ?_⟩
        · obtain ⟨k, rfl⟩ : ∃ j, k = j + 1 := ⟨k - 1, by omega⟩
          rw [List.take_succ_cons, wordR, if_neg hc, if_pos h128]
        · obtain rfl : k = 0 := by omega
          rfl
      · rename_i h128
        obtain ⟨a1, a2, a3, a4⟩ := wordR_trunc fr l _ _ _ _ _ (k - 1) e
        refine ⟨by omega, by simp only [List.length_cons]; omega, fun h => ?_, fun h => ?_⟩
        · obtain ⟨k, rfl⟩ : ∃ j, k = j + 1 := ⟨k - 1, by omega⟩
          rw [List.take_succ_cons, wordR, if_neg hc, if_neg h128]
          exact a3 (by omega)
        · cases k with
          | zero => rfl
          | succ k =>
            rw [List.take_succ_cons, wordR, if_neg hc, if_neg h128]
            exact a4 (by omega)
theorem Gd.word : Gd pword (fun n bs => bs = wordB n) := by
  intro t hb p m q hp e
  unfold pword at e
  obtain ⟨n, l', e1, e2, e3, _⟩ := wordR_back p _ _ _ _ _ _ (fun b hb' => hb b (List.mem_of_mem_drop hb')) e
  obtain ⟨a1, a2, _, _⟩ := wordR_trunc p _ _ _ _ _ _ 0 e
  rw [List.length_drop] at a2
  have hm : m = n := by simpa using e1
  subst hm
  refine ⟨by omega, a1, ⟨wordB m, ?_, rfl⟩, fun k k1 k2 => ?_⟩
  · rw [e2, e3, drop_app e2]
  · obtain ⟨_, _, b3, b4⟩ := wordR_trunc p _ _ _ _ _ _ (k - p) e
    have hd : (t.take k).drop p = (t.drop p).take (k - p) := List.drop_take
    unfold pword
    rw [hd]
    exact ⟨fun h => b3 (by omega), fun h => ⟨p, k1, b4 (by omega)⟩⟩
theorem Gd.num (lim : Nat) (e : Int) : Gd (fun t p => pnum t lim e p) (fun n bs => bs = wordB n ∧ n ≤ lim) := by
  intro t hb p m q hp h
  have h : (pword t p).bind (fun n q => if lim < n then .bad e p else .ok n q) = .ok m q := h
  cases hw : pword t p with
  | bad e2 n => rw [hw] at h; cases h
  | ok n q1 =>
    rw [hw, PR.ok_bind] at h
    split at h
    · cases h
    · rename_i hl
      simp only [PR.ok.injEq] at h
      obtain ⟨rfl, rfl⟩ := h
      obtain ⟨h1, h2, ⟨bs, h3, h4⟩, h5⟩ := Gd.word t hb p n q1 hp hw
      refine ⟨h1, h2, ⟨bs, h3, h4, by omega⟩, fun k k1 k2 => ?_⟩
      obtain ⟨u1, u2⟩ := h5 k k1 k2
      refine ⟨fun hq => ?_, fun hq => ?_⟩
      · show (pword (t.take k) p).bind _ = _
        rw [u1 hq, PR.ok_bind, if_neg hl]
      · obtain ⟨r, r1, r2⟩ := u2 hq
        refine ⟨r, r1, ?_⟩
        show (pword (t.take k) p).bind _ = _
        rw [r2]; rfl
theorem Gd.list {α : Type} {f : List Int → Nat → PR α} {e : α → List Int} (h : Gd f (fun a bs => bs = e a)) : ∀ c, Gd (fun t p => plist (f t) c p) (fun l bs => bs = l.flatMap e ∧ l.length = c)
  | 0 => Gd.pure ⟨rfl, rfl⟩
  | c + 1 => Gd.bind (g := fun a t q => (plist (f t) c q).bind fun l p => .ok (a :: l) p) h fun a bs hbs => Gd.bind (g := fun l t q => .ok (a :: l) q) (Gd.list h c) fun l cs hcs => Gd.pure (by simp [hbs, hcs.1, hcs.2])
theorem Gd.kinds (lim : Nat) : Gd (fun t p => pkinds t lim p) (fun l bs => bs = eK (asK l)) :=
  Gd.bind (g := fun n t q => plist (pnum t 65535 1) n q) (Gd.num lim 16) fun n bs hbs => (Gd.list (f := fun t p => pnum t 65535 1 p) (e := wordB) ((Gd.num 65535 1).mono fun a bs h => h.1) n).mono fun l cs hcs => by
    rw [hbs.1, hcs.1, eK]
    simp [hcs.2, List.flatMap_map]
theorem Gd.ins : Gd pins (fun i bs => bs = eI i) := by
  have e : pins = fun t p => (pnum t 65535 1 p).bind fun a p => (pnum t 65535 1 p).bind fun b p => (pnum t 65535 1 p).bind fun c p => (pnum t 65535 1 p).bind fun d p => pinsR2 t a b c d p := by funext t p; exact pins_eq2 t p
  rw [e]
  refine Gd.bind (g := fun a t q => (pnum t 65535 1 q).bind fun b p => (pnum t 65535 1 p).bind fun c p => (pnum t 65535 1 p).bind fun d p => pinsR2 t a b c d p) (Gd.num 65535 1) fun a b1 h1 => ?_
  refine Gd.bind (g := fun b t q => (pnum t 65535 1 q).bind fun c p => (pnum t 65535 1 p).bind fun d p => pinsR2 t a b c d p) (Gd.num 65535 1) fun b b2 h2 => ?_
  refine Gd.bind (g := fun c t q => (pnum t 65535 1 q).bind fun d p => pinsR2 t a b c d p) (Gd.num 65535 1) fun c b3 h3 => ?_
  refine Gd.bind (g := fun d t q => pinsR2 t a b c d q) (Gd.num 65535 1) fun d b4 h4 => ?_
  refine Gd.bind (g := fun imm t q => (pkinds t 24 q).bind fun li p => .ok (PIns.mk a b c d imm (asK li)) p) Gd.word fun imm b5 h5 => ?_
  refine Gd.bind (g := fun li t q => .ok (PIns.mk a b c d imm (asK li)) q) (Gd.kinds 24) fun li b6 h6 => Gd.pure ?_
  simp only [eI, h1.1, h2.1, h3.1, h4.1, h5, h6, List.append_nil, Int.toNat_natCast]
theorem Gd.type : Gd ptype (fun b bs => bs = eT b) := by
  refine Gd.bind (g := fun (n : Nat) t q => (pkinds t 16 q).bind fun l p => .ok (decide ((n : Int) = 1), asK l) p) (Gd.num 1 8) fun n b1 h1 => ?_
  refine Gd.bind (g := fun l t q => .ok (decide ((n : Int) = 1), asK l) q) (Gd.kinds 16) fun l b2 h2 => Gd.pure ?_
  have : wordB (if decide ((n : Int) = 1) = true then 1 else 0) = wordB n := by
    have h := h1.2
    by_cases q : n = 1
    · subst q; rfl
    · obtain rfl : n = 0 := by omega
      rfl
  simp only [eT, h1.1, h2, List.append_nil, this]
theorem Gd.func : Gd pfunc (fun f bs => bs = eF f) := by
  refine Gd.bind (g := fun (a : Nat) t q => (pkinds t 32 q).bind fun s p => (pkinds t 32 p).bind fun r p => (pnum t 256 16 p).bind fun n p => (plist (pins t) n p).bind fun c p => .ok (PFunc.mk a (asK s) (asK r) c) p) (Gd.num 65535 1) fun a b1 h1 => ?_
  refine Gd.bind (g := fun s t q => (pkinds t 32 q).bind fun r p => (pnum t 256 16 p).bind fun n p => (plist (pins t) n p).bind fun c p => .ok (PFunc.mk a (asK s) (asK r) c) p) (Gd.kinds 32) fun s b2 h2 => ?_
  refine Gd.bind (g := fun r t q => (pnum t 256 16 q).bind fun n p => (plist (pins t) n p).bind fun c p => .ok (PFunc.mk a (asK s) (asK r) c) p) (Gd.kinds 32) fun r b3 h3 => ?_
  refine Gd.bind (g := fun n t q => (plist (pins t) n q).bind fun c p => .ok (PFunc.mk a (asK s) (asK r) c) p) (Gd.num 256 16) fun n b4 h4 => ?_
  refine Gd.bind (g := fun c t q => .ok (PFunc.mk a (asK s) (asK r) c) q) (Gd.list Gd.ins n) fun c b5 h5 => Gd.pure ?_
  simp only [eF, h1.1, h2, h3, h4.1, h5.1, h5.2, List.append_nil, Int.toNat_natCast]
theorem Gd.prog : Gd pbody (fun p bs => bs = eP p) := by
  refine Gd.bind (g := fun n t q => (plist (ptype t) n q).bind fun ts p => (pkinds t 32 p).bind fun g p => (pnum t 32 16 p).bind fun m p => (plist (pfunc t) m p).bind fun fs p => .ok (PProg.mk ts (asK g) fs) p) (Gd.num 32 16) fun n b1 h1 => ?_
  refine Gd.bind (g := fun ts t q => (pkinds t 32 q).bind fun g p => (pnum t 32 16 p).bind fun m p => (plist (pfunc t) m p).bind fun fs p => .ok (PProg.mk ts (asK g) fs) p) (Gd.list Gd.type n) fun ts b2 h2 => ?_
  refine Gd.bind (g := fun g t q => (pnum t 32 16 q).bind fun m q => (plist (pfunc t) m q).bind fun fs q => .ok (PProg.mk ts (asK g) fs) q) (Gd.kinds 32) fun g b3 h3 => ?_
  refine Gd.bind (g := fun m t q => (plist (pfunc t) m q).bind fun fs q => .ok (PProg.mk ts (asK g) fs) q) (Gd.num 32 16) fun m b4 h4 => ?_
  refine Gd.bind (g := fun fs t q => .ok (PProg.mk ts (asK g) fs) q) (Gd.list Gd.func m) fun fs b5 h5 => Gd.pure ?_
  simp only [eP, h1.1, h2.1, h2.2, h3, h4.1, h5.1, h5.2, List.append_nil]
theorem back {t : List Int} (hb : ∀ b, b ∈ t → 0 ≤ b ∧ b ≤ 255) {p : PProg} {q : Nat} (h : pprog t = .ok p q) : t = eP p ∧ p.Lo := by
  refine ⟨?_, Al.prog t p q h⟩
  rw [pprog_eq] at h
  cases hp : pbody t 0 with
  | bad e n => rw [hp] at h; cases h
  | ok a q1 =>
    rw [hp, PR.ok_bind] at h
    split at h
    · cases h
    · rename_i hq
      simp only [PR.ok.injEq] at h
      obtain ⟨rfl, rfl⟩ := h
      obtain ⟨h1, _, ⟨bs, h3, h4⟩, _⟩ := Gd.prog t hb 0 a q1 (Nat.zero_le _) hp
      have hl : q1 = t.length := by omega
      subst hl
      rw [List.drop_length, List.append_nil, List.drop_zero] at h3
      rw [h3, h4]
theorem cutShort {p : PProg} (hl : p.Lo) (hb : ∀ b, b ∈ eP p → 0 ≤ b ∧ b ≤ 255) {n : Nat} (hn : n < (eP p).length) : ∃ r, r ≤ n ∧ pprog ((eP p).take n) = .bad 7 r := by
  have h0 := Rds.prog hl (eP p) 0 [] (by simp)
  rw [Nat.zero_add] at h0
  obtain ⟨_, _, _, h5⟩ := Gd.prog (eP p) hb 0 p _ (Nat.zero_le _) h0
  obtain ⟨r, r1, r2⟩ := (h5 n (Nat.zero_le _) (by omega)).2 hn
  refine ⟨r, r1, ?_⟩
  rw [pprog_eq, r2]; rfl
theorem wordB_byte (n : Nat) : ∀ b, b ∈ wordB n → 0 ≤ b ∧ b ≤ 255 := by
  induction n using Nat.strongRecOn with
  | ind n ih =>
    intro b hb
    by_cases h : 127 < n
    · rw [wordB_step h] at hb
      rcases List.mem_cons.1 hb with e | e
      · omega
      · exact ih (n / 128) (by omega) b e
    · rw [wordB_small (by omega)] at hb
      simp only [List.mem_cons, List.not_mem_nil, or_false] at hb
      omega
theorem eP_byte (p : PProg) : ∀ b, b ∈ eP p → 0 ≤ b ∧ b ≤ 255 := by
  have app : ∀ {l m : List Int}, (∀ b, b ∈ l → 0 ≤ b ∧ b ≤ 255) → (∀ b, b ∈ m → 0 ≤ b ∧ b ≤ 255) → ∀ b, b ∈ l ++ m → 0 ≤ b ∧ b ≤ 255 := fun h1 h2 b hb => by
    rcases List.mem_append.1 hb with e | e
    · exact h1 b e
    · exact h2 b e
  have fm : ∀ {α : Type} {f : α → List Int}, (∀ a b, b ∈ f a → 0 ≤ b ∧ b ≤ 255) → ∀ (l : List α) b, b ∈ l.flatMap f → 0 ≤ b ∧ b ≤ 255 := fun h l b hb => by
    obtain ⟨a, _, h2⟩ := List.mem_flatMap.1 hb; exact h a b h2
  have k : ∀ l b, b ∈ eK l → 0 ≤ b ∧ b ≤ 255 := fun l => app (wordB_byte _) (fm (fun a => wordB_byte _) l)
  have i : ∀ i b, b ∈ eI i → 0 ≤ b ∧ b ≤ 255 := fun i => app (wordB_byte _) (app (wordB_byte _) (app (wordB_byte _) (app (wordB_byte _) (app (wordB_byte _) (k _)))))
  exact app (wordB_byte _) (app (fm (fun t => app (wordB_byte _) (k _)) _) (app (k _) (app (wordB_byte _) (fm (fun f => app (wordB_byte _) (app (k _) (app (k _) (app (wordB_byte _) (fm i _))))) _))))
end Go.Proofs.Ytfagngiceofoeaa.Cd

namespace Go.Proofs.Ytfagngiceofoeaa.Cd
open Go Go.AM Go.Proofs.Ytfagngiceofoeaa.AmGC
attribute [local irreducible] AM.wp AM.wpIs AM.wpTr AM.opI AM.gI AM.cI AM.trI AM.callI AM.fnI AM.trG AM.trOp AM.trCall AM.seqC AM.loopI
set_option maxRecDepth 100000
set_option linter.unusedVariables false
set_option linter.unusedSimpArgs false

theorem PProg.Lo.ok {p : PProg} (h : p.Lo) : p.Ok := by
  refine ⟨fun t ht x hx => ?_, fun x hx => ?_, fun f hf => ?_⟩
  · have := ((h.types.2 t ht).2 x hx).2; show x ≤ 9223372036854775807; omega
  · have := (h.globals.2 x hx).2; show x ≤ 9223372036854775807; omega
  · have g := h.funcs.2 f hf
    refine ⟨?_, fun x hx => ?_, fun x hx => ?_, fun i hi => ?_⟩
    · have := g.params.2; show f.params ≤ 9223372036854775807; omega
    · have := (g.slots.2 x hx).2; show x ≤ 9223372036854775807; omega
    · have := (g.results.2 x hx).2; show x ≤ 9223372036854775807; omega
    · have k := g.code.2 i hi
      refine ⟨?_, ?_, ?_, ?_, by have := k.imm; omega, fun x hx => ?_⟩
      · have := k.op.2; show i.op ≤ 9223372036854775807; omega
      · have := k.a.2; show i.a ≤ 9223372036854775807; omega
      · have := k.b.2; show i.b ≤ 9223372036854775807; omega
      · have := k.c.2; show i.c ≤ 9223372036854775807; omega
      · have := (k.list x hx).2; show x ≤ 9223372036854775807; omega
theorem enc_ok {p : PProg} (hp : p.Ok) (h : wres p = 0) : p.Lo ∧ wout p = eP p ∧ (eP p).length ≤ 16384 := by
  unfold wres at h
  split at h
  · rename_i hc
    obtain ⟨h1, h2⟩ := Lays.prog p hp
    have e := h2 hc.1
    refine ⟨h1.1 hc.1, ?_, by rw [← e]; exact hc.2⟩
    unfold wout
    rw [if_pos hc, e]
  · split at h
    · cases h
    · rename_i h0; exact absurd h h0
theorem enc_of {p : PProg} (hl : p.Lo) (h : (eP p).length ≤ 16384) : wres p = 0 ∧ wout p = eP p := by
  obtain ⟨h1, h2⟩ := Lays.prog p hl.ok
  have h0 := h1.2 hl
  have e := h2 h0
  have hc : (wprog p).2 = 0 ∧ (wprog p).1.length ≤ 16384 := ⟨h0, by rw [e]; exact h⟩
  unfold wres wout
  rw [if_pos hc, if_pos hc]
  exact ⟨rfl, e⟩
theorem dec_enc {p : PProg} (hp : p.Ok) (h : wres p = 0) : pdec (wout p) = .ok p (eP p).length := by
  obtain ⟨h1, h2, h3⟩ := enc_ok hp h
  rw [h2]
  exact (if_neg (by omega)).trans (there h1)
theorem enc_dec {t : List Int} (hb : ∀ b, b ∈ t → 0 ≤ b ∧ b ≤ 255) (h : (pdec t).err = 0) : ∃ p q, pdec t = .ok p q ∧ p.Lo ∧ wres p = 0 ∧ wout p = t := by
  have nz := Nz.dec t
  cases hd : pdec t with
  | bad e n => rw [hd] at h; exact absurd h (nz e n hd)
  | ok p q =>
    unfold pdec at hd
    split at hd
    · cases hd
    · rename_i hl
      obtain ⟨h1, h2⟩ := back hb hd
      obtain ⟨h3, h4⟩ := enc_of h2 (by rw [← h1]; omega)
      exact ⟨p, q, rfl, h2, h3, by rw [h4, ← h1]⟩
theorem sizesLo {p : PProg} (h : p.Lo) : pszT p + pszF p + 3 * p.globals.length + 200 < 1073741824 := by
  have b1 : ∀ {α : Type} (f : α → Nat) (c : Nat) (l : List α), (∀ a, a ∈ l → f a ≤ c) → (l.map f).sum ≤ l.length * c := by
    intro α f c l
    induction l with
    | nil => simp
    | cons a l ih =>
      intro h
      have h1 := h a List.mem_cons_self
      have h2 := ih fun a ha => h a (List.mem_cons_of_mem _ ha)
      simp only [List.map_cons, List.sum_cons, List.length_cons, Nat.add_mul]; omega
  have e1 := b1 tsz 54 p.types fun t ht => by have := (h.types.2 t ht).1; unfold tsz; omega
  have e2 := b1 fsz 30000 p.funcs fun f hf => by
    have g := h.funcs.2 f hf
    have e3 := b1 isz 97 f.code fun i hi => by have := (g.code.2 i hi).len; unfold isz; omega
    have := g.slots.1; have := g.results.1
    have h5 : f.code.length * 97 ≤ 256 * 97 := Nat.mul_le_mul_right 97 g.code.1
    unfold fsz; omega
  have h1 := Nat.mul_le_mul_right 54 h.types.1
  have h2 := Nat.mul_le_mul_right 30000 h.funcs.1
  have := h.globals.1
  unfold pszT pszF; omega

theorem wout_byte (p : PProg) (hp : p.Ok) : ∀ b, b ∈ wout p → 0 ≤ b ∧ b ≤ 255 := by
  by_cases h : wres p = 0
  · rw [(enc_ok hp h).2.1]; exact eP_byte p
  · intro b hb
    unfold wout at hb
    split at hb
    · rename_i hc
      exact absurd (by unfold wres; rw [if_pos hc]) h
    · simp at hb

theorem lawBack {h : AHeap} {p : PProg} {row : List AVal} (R : ProgR h p row) (ok : p.Ok) (hsz2 : pszT p + pszF p + 3 * p.globals.length + 200 < 1073741824) (hsz : p.Sz) {v : AVal} {t : List Int} (L : SlIn h 1 encB v t) (hb : ∀ b, b ∈ t → 0 ≤ b ∧ b ≤ 255) :
    CallP AP 5 [.agg row, v] h fun r h' => r = .bool true := by
  obtain ⟨hc, hl⟩ := ProgR.cellv R
  have ht : List.take 3 row = row := List.take_of_length_le (by omega)
  refine callP (rfl : Tr.get AP 5 = some A5) ?_
  generalize hQ : (fun (r : AVal) (h' : AHeap) => _) = Q
  simp -implicitDefEqProofs (disch := first | decide | assumption | omega | (simp -implicitDefEqProofs only [AM.RN]; first | done | omega) | fail) only [↓AM.R0, AM.R1, AM.R2, Nat.reduceAdd, Nat.reduceLeDiff, Nat.reduceEqDiff, Int.reduceToNat, Nat.reduceLT, ↓reduceIte, Int.reduceEq, Int.reduceLT, Int.reduceLE, hc, hl, ht]
  have f0 := (HFrame.refl (h := h) (F := []) (by simp)).pushTmp (.cells 0 false row)
  have g0 := AHeap.get_push_same h (.cells 0 false row)
  have n0 : (h.push (.cells 0 false row)).n = h.n + 1 := rfl
  generalize h.push (.cells 0 false row) = h0 at *
  refine AM.callI_of (awake h0) ?_
  rintro r h1 ⟨rfl, f1⟩
  have f01 := f0.trans f1
  have g1 := (f1.get h.n (by omega) (by simp)).trans g0
  have n1 : h.n < h1.n := by have := f1.n; omega
  simp -implicitDefEqProofs (disch := first | decide | assumption | omega | (simp -implicitDefEqProofs only [AM.RN]; first | done | omega) | fail) only [↓AM.R0, AM.R1, AM.R2, Nat.reduceAdd, Nat.reduceLeDiff, Nat.reduceEqDiff, Int.reduceToNat, Nat.reduceLT, ↓reduceIte, Int.reduceEq, Int.reduceLT, Int.reduceLE, hl, g1, ht]
  refine AM.callI_of (encode' (ProgR.keep R f01) hsz2 (fun f hf i hi => (ok.funcs f hf).code i hi |>.imm)) ?_
  rintro r h2 ⟨ov, Fo, f2, rfl, s2⟩
  have f02 := f01.trans (HFrame.non f2)
  have g2 := (f2.get h.n (by omega) (by simp)).trans g1
  have n2 : h.n < h2.n := by have := f2.n; omega
  simp -implicitDefEqProofs (disch := first | decide | assumption | omega | (simp -implicitDefEqProofs only [AM.RN]; first | done | omega) | fail) only [↓AM.R0, AM.R1, AM.R2, Nat.reduceAdd, Nat.reduceLeDiff, Nat.reduceEqDiff, Int.reduceToNat, Nat.reduceLT, ↓reduceIte, Int.reduceEq, Int.reduceLT, Int.reduceLE]
  refine AM.cI_cut (fun e' h' => e'.val 1 = v ∧ HFrame h h' [] []) ?_ ?_
  · rintro e h3 ⟨e1, f3⟩
    simp -implicitDefEqProofs (disch := first | decide | assumption | omega | (simp -implicitDefEqProofs only [AM.RN]; first | done | omega) | fail) only [↓AM.R0, AM.R1, AM.R2, Nat.reduceAdd, Nat.reduceLeDiff, Nat.reduceEqDiff, Int.reduceToNat, Nat.reduceLT, ↓reduceIte, Int.reduceEq, Int.reduceLT, Int.reduceLE, e1]
    refine AM.callI_of (decode (L.keep f3) hb [] (by simp)) ?_
    rintro r h4 ⟨f4, row4, rfl, hr1, hr2, hrow⟩
    have ht4 : List.take 3 row4 = row4 := List.take_of_length_le (by omega)
    simp -implicitDefEqProofs (disch := first | decide | assumption | omega | (simp -implicitDefEqProofs only [AM.RN]; first | done | omega) | fail) only [↓AM.R0, AM.R1, AM.R2, Nat.reduceAdd, Nat.reduceLeDiff, Nat.reduceEqDiff, Int.reduceToNat, Nat.reduceLT, ↓reduceIte, Int.reduceEq, Int.reduceLT, Int.reduceLE, hr1, hr2]
    obtain ⟨hD, hDe⟩ : ∃ hD, hD = (((h4.push (.cells 0 false [.nils, .nils, .nils])).push (.cells 0 false [.int .i64 0, .int .i64 0, .int .i64 0])).set h4.n (.cells 0 false row4)).set (h4.n + 1) (.cells 0 false [.int .i64 (pdec t).err, .int .i64 (pdec t).fn, .int .i64 (pdec t).pl]) := ⟨_, rfl⟩
    have fD : HFrame h4 hD [] [] := by rw [hDe]; exact ((((HFrame.refl (by simp)).pushTmp _).pushTmp _).setTmp (Nat.le_refl _) _).setTmp (by omega) _
    have gD : hD.get h4.n = .cells 0 false row4 := by rw [hDe, AHeap.get_set_ne _ _ (by omega)]; exact AHeap.get_set_same _ _ _
    have gE : hD.get (h4.n + 1) = .cells 0 false [.int .i64 (pdec t).err, .int .i64 (pdec t).fn, .int .i64 (pdec t).pl] := by rw [hDe]; exact AHeap.get_set_same _ _ _
    have nD : hD.n = h4.n + 2 := by rw [hDe]; rfl
    rw [← hDe]
    refine AM.cI_bool (fun hc => ?_) (fun hc => ?_)
    · simp -implicitDefEqProofs (disch := first | decide | assumption | omega | (simp -implicitDefEqProofs only [AM.RN]; first | done | omega) | fail) only [↓AM.R0, AM.R1, AM.R2, Nat.reduceAdd, Nat.reduceLeDiff, Nat.reduceEqDiff, Int.reduceToNat, Nat.reduceLT, ↓reduceIte, Int.reduceEq, Int.reduceLT, Int.reduceLE]
      subst hQ
      rfl
    · simp only [Bool.not_eq_false', decide_eq_true_eq] at hc
      obtain ⟨q, qn, hd, hlo, hr, hw⟩ := enc_dec hb hc
      have hrow : ProgS h4 q row4 := by have := ProgS.unmask hrow; rw [hd] at this; exact this
      simp -implicitDefEqProofs (disch := first | decide | assumption | omega | (simp -implicitDefEqProofs only [AM.RN]; first | done | omega) | fail) only [↓AM.R0, AM.R1, AM.R2, Nat.reduceAdd, Nat.reduceLeDiff, Nat.reduceEqDiff, Int.reduceToNat, Nat.reduceLT, ↓reduceIte, Int.reduceEq, Int.reduceLT, Int.reduceLE, gD, hr1, ht4]
      refine AM.callI_of (encode' (ProgR.keep hrow.r fD) (sizesLo hlo) (fun f hf i hi => (hlo.ok.funcs f hf).code i hi |>.imm)) ?_
      rintro r h5 ⟨ow, Fw, f5, rfl, s5⟩
      rw [hr]
      rw [hw] at s5
      simp -implicitDefEqProofs (disch := first | decide | assumption | omega | (simp -implicitDefEqProofs only [AM.RN]; first | done | omega) | fail) only [↓AM.R0, AM.R1, AM.R2, Nat.reduceAdd, Nat.reduceLeDiff, Nat.reduceEqDiff, Int.reduceToNat, Nat.reduceLT, ↓reduceIte, Int.reduceEq, Int.reduceLT, Int.reduceLE, e1]
      refine AM.callI_of (sameB (l := t) (.inl s5.rd) ((((L.keep f3).keep f4).keep fD).keep f5)) ?_
      rintro r h6 ⟨rfl, rfl⟩
      simp -implicitDefEqProofs (disch := first | decide | assumption | omega | (simp -implicitDefEqProofs only [AM.RN]; first | done | omega) | fail) only [↓AM.R0, AM.R1, AM.R2, Nat.reduceAdd, Nat.reduceLeDiff, Nat.reduceEqDiff, Int.reduceToNat, Nat.reduceLT, ↓reduceIte, Int.reduceEq, Int.reduceLT, Int.reduceLE]
      subst hQ
      rfl
  · refine AM.cI_bool (fun hw => ?_) (fun hw => ?_)
    · simp only [decide_eq_true_eq] at hw
      have hdp := dec_enc ok hw
      simp -implicitDefEqProofs (disch := first | decide | assumption | omega | (simp -implicitDefEqProofs only [AM.RN]; first | done | omega) | fail) only [↓AM.R0, AM.R1, AM.R2, Nat.reduceAdd, Nat.reduceLeDiff, Nat.reduceEqDiff, Int.reduceToNat, Nat.reduceLT, ↓reduceIte, Int.reduceEq, Int.reduceLT, Int.reduceLE]
      refine AM.callI_of (decode (.inl s2.rd) (wout_byte p ok) [] (by simp)) ?_
      rintro r h4 ⟨f4, row4, rfl, hr1, hr2, hrow⟩
      have ht4 : List.take 3 row4 = row4 := List.take_of_length_le (by omega)
      rw [hdp] at hrow ⊢
      simp only [PR.err, PR.fn, PR.pl, PR.prog] at hrow ⊢
      have hrow : ProgS h4 p row4 := ProgS.unmask hrow
      simp -implicitDefEqProofs (disch := first | decide | assumption | omega | (simp -implicitDefEqProofs only [AM.RN]; first | done | omega) | fail) only [↓AM.R0, AM.R1, AM.R2, Nat.reduceAdd, Nat.reduceLeDiff, Nat.reduceEqDiff, Int.reduceToNat, Nat.reduceLT, ↓reduceIte, Int.reduceEq, Int.reduceLT, Int.reduceLE, hr1, hr2]
      obtain ⟨hD, hDe⟩ : ∃ hD, hD = (((h4.push (.cells 0 false [.nils, .nils, .nils])).push (.cells 0 false [.int .i64 0, .int .i64 0, .int .i64 0])).set h4.n (.cells 0 false row4)).set (h4.n + 1) (.cells 0 false [.int .i64 0, .int .i64 0, .int .i64 ((0 : Nat) : Int)]) := ⟨_, rfl⟩
      have fD : HFrame h4 hD [] [] := by rw [hDe]; exact ((((HFrame.refl (by simp)).pushTmp _).pushTmp _).setTmp (Nat.le_refl _) _).setTmp (by omega) _
      have g4 := (f4.get h.n (by omega) (by simp)).trans g2
      have n4 := f4.n
      have gB : hD.get h.n = _ := (fD.get h.n (by omega) (by simp)).trans g4
      have gD : hD.get h4.n = .cells 0 false row4 := by rw [hDe, AHeap.get_set_ne _ _ (by omega)]; exact AHeap.get_set_same _ _ _
      have nD : hD.n = h4.n + 2 := by rw [hDe]; rfl
      simp -implicitDefEqProofs (disch := first | decide | assumption | omega | (simp -implicitDefEqProofs only [AM.RN]; first | done | omega) | fail) only [↓AM.R0, AM.R1, AM.R2, Nat.reduceAdd, Nat.reduceLeDiff, Nat.reduceEqDiff, Int.reduceToNat, Nat.reduceLT, ↓reduceIte, Int.reduceEq, Int.reduceLT, Int.reduceLE, g4, hl, ht, hr1, ht4]
      rw [← hDe]
      refine AM.callI_of (sameProg (ProgR.keep R ((f02.trans f4).trans fD)) (ProgR.keep hrow.r fD) hsz) ?_
      rintro r h5 ⟨rfl, f5⟩
      simp -implicitDefEqProofs (disch := first | decide | assumption | omega | (simp -implicitDefEqProofs only [AM.RN]; first | done | omega) | fail) only [↓AM.R0, AM.R1, AM.R2, Nat.reduceAdd, Nat.reduceLeDiff, Nat.reduceEqDiff, Int.reduceToNat, Nat.reduceLT, ↓reduceIte, Int.reduceEq, Int.reduceLT, Int.reduceLE]
      exact ((f02.trans f4).trans fD).trans f5
    · simp -implicitDefEqProofs (disch := first | decide | assumption | omega | (simp -implicitDefEqProofs only [AM.RN]; first | done | omega) | fail) only [↓AM.R0, AM.R1, AM.R2, Nat.reduceAdd, Nat.reduceLeDiff, Nat.reduceEqDiff, Int.reduceToNat, Nat.reduceLT, ↓reduceIte, Int.reduceEq, Int.reduceLT, Int.reduceLE]
      exact f02
end Go.Proofs.Ytfagngiceofoeaa.Cd

namespace Go.Proofs.Ytfagngiceofoeaa.Cd
open Go Go.AM Go.Proofs.Ytfagngiceofoeaa.AmGC
attribute [local irreducible] AM.wp AM.wpIs AM.wpTr AM.opI AM.gI AM.cI AM.trI AM.callI AM.fnI AM.trG AM.trOp AM.trCall AM.seqC AM.loopI
set_option maxRecDepth 100000
set_option linter.unusedVariables false
set_option linter.unusedSimpArgs false

theorem eP_pos (p : PProg) : 0 < (eP p).length := by
  have : 0 < (wordB p.types.length).length := by
    rw [wordB]; split <;> simp
  unfold eP
  simp only [List.length_append]; omega

theorem lawShort {h : AHeap} {p : PProg} {row : List AVal} (R : ProgR h p row) (ok : p.Ok) (hsz2 : pszT p + pszF p + 3 * p.globals.length + 200 < 1073741824) (cut tail : Int) (hcut : 0 ≤ cut ∧ cut ≤ 65535) (htail : 0 ≤ tail ∧ tail ≤ 255) :
    CallP AP 7 [.agg row, .int .u16 cut, .int .u8 tail] h fun r h' => r = .bool true := by
  obtain ⟨hc, hl⟩ := ProgR.cellv R
  have ht : List.take 3 row = row := List.take_of_length_le (by omega)
  refine callP (rfl : Tr.get AP 7 = some A7) ?_
  generalize hQ : (fun (r : AVal) (h' : AHeap) => _) = Q
  simp -implicitDefEqProofs (disch := first | decide | assumption | omega | (simp -implicitDefEqProofs only [AM.RN]; first | done | omega) | fail) only [↓AM.R0, AM.R1, AM.R2, Nat.reduceAdd, Nat.reduceLeDiff, Nat.reduceEqDiff, Int.reduceToNat, Nat.reduceLT, ↓reduceIte, Int.reduceEq, Int.reduceLT, Int.reduceLE, hc, hl, ht]
  have f0 := (HFrame.refl (h := h) (F := []) (by simp)).pushTmp (.cells 0 false row)
  generalize h.push (.cells 0 false row) = h0 at *
  refine AM.callI_of (encode' (ProgR.keep R f0) hsz2 (fun f hf i hi => (ok.funcs f hf).code i hi |>.imm)) ?_
  rintro r h1 ⟨ov, Fo, f1, rfl, s1⟩
  have lo := s1.len
  simp -implicitDefEqProofs (disch := first | decide | assumption | omega | (simp -implicitDefEqProofs only [AM.RN]; first | done | omega) | fail) only [↓AM.R0, AM.R1, AM.R2, Nat.reduceAdd, Nat.reduceLeDiff, Nat.reduceEqDiff, Int.reduceToNat, Nat.reduceLT, ↓reduceIte, Int.reduceEq, Int.reduceLT, Int.reduceLE]
  refine AM.callI_of (awake h1) ?_
  rintro r h2 ⟨rfl, f2⟩
  have s2 := s1.frame f2.n fun j hj => f2.get j (s1.lt j hj) (by simp)
  simp -implicitDefEqProofs (disch := first | decide | assumption | omega | (simp -implicitDefEqProofs only [AM.RN]; first | done | omega) | fail) only [AM.RGB, ↓AM.R0, AM.R1, AM.R2, Nat.reduceAdd, Nat.reduceLeDiff, Nat.reduceEqDiff, Int.reduceToNat, Nat.reduceLT, ↓reduceIte, Int.reduceEq, Int.reduceLT, Int.reduceLE, lo]
  refine AM.cI_bool (fun hw => ?_) (fun hw => ?_)
  · have key : (wout p).length = 0 ∨ wres p = 0 := by
      by_cases h0 : wres p = 0
      · exact .inr h0
      · left
        unfold wout
        split
        · rename_i hc; exact absurd (by unfold wres; rw [if_pos hc]) h0
        · rfl
    have kb : (decide (((wout p).length : Int) = 0) || decide (wres p = 0)) = true := by
      simp only [Bool.or_eq_true, decide_eq_true_eq]
      rcases key with e | e
      · left; omega
      · exact .inr e
    simp -implicitDefEqProofs (disch := first | decide | assumption | omega | (simp -implicitDefEqProofs only [AM.RN]; first | done | omega) | fail) only [AM.RGB, ↓AM.R0, AM.R1, AM.R2, Nat.reduceAdd, Nat.reduceLeDiff, Nat.reduceEqDiff, Int.reduceToNat, Nat.reduceLT, ↓reduceIte, Int.reduceEq, Int.reduceLT, Int.reduceLE, lo, kb]
    subst hQ
    rfl
  · simp only [Bool.or_eq_false_iff, Bool.not_eq_false', decide_eq_true_eq, decide_eq_false_iff_not] at hw
    obtain ⟨hw0, hlen⟩ := hw
    obtain ⟨hlo, hout, hl2⟩ := enc_ok ok hw0
    have hpos := eP_pos p
    have w1 : IntKind.i64.wrap cut = cut := wrap64 (by omega) (by omega)
    have hne : ((wout p).length : Int) ≠ 0 := by rw [hout]; omega
    obtain ⟨n, hn⟩ : ∃ n : Nat, n = cut.toNat % (wout p).length := ⟨_, rfl⟩
    have t1 : cut.tmod ((wout p).length : Int) = (n : Int) := by
      rw [Int.tmod_eq_emod_of_nonneg hcut.1, hn]
      have : cut = ((cut.toNat : Nat) : Int) := by omega
      conv => lhs; rw [this]
      rw [← Int.natCast_emod]
    have hlt : n < (wout p).length := by rw [hn]; exact Nat.mod_lt _ (by rw [hout]; omega)
    obtain ⟨cv, hcv, cs⟩ := s2.rd.upto (fun _ => rfl) (Nat.le_of_lt hlt) .i64
    have hnb : ∀ b, b ∈ wout p → 0 ≤ b ∧ b ≤ 255 := wout_byte p ok
    obtain ⟨r7, hr7, hb7⟩ := cutShort hlo (by rw [← hout]; exact hnb) (n := n) (by rw [← hout]; exact hlt)
    have hd1 : pdec ((wout p).take n) = .bad 7 r7 := by
      unfold pdec
      rw [if_neg (by simp; omega), hout]; exact hb7
    simp -implicitDefEqProofs (disch := first | decide | assumption | omega | (simp -implicitDefEqProofs only [AM.RN]; first | done | omega) | fail) only [↓AM.R0, AM.R1, AM.R2, Nat.reduceAdd, Nat.reduceLeDiff, Nat.reduceEqDiff, Int.reduceToNat, Nat.reduceLT, ↓reduceIte, Int.reduceEq, Int.reduceLT, Int.reduceLE, lo, w1, hne, t1, hcv]
    refine AM.callI_of (decode (.inl cs) (fun b hb => hnb b (List.mem_of_mem_take hb)) [] (by simp)) ?_
    rintro r h3 ⟨f3, row3, rfl, hr1, hr2, hrow⟩
    rw [hd1]
    simp only [PR.err, PR.fn, PR.pl]
    have hle : decide ((n : Int) < (r7 : Int)) = false := decide_eq_false (by omega)
    simp -implicitDefEqProofs (disch := first | decide | assumption | omega | (simp -implicitDefEqProofs only [AM.RN]; first | done | omega) | fail) only [↓AM.R0, AM.R1, AM.R2, Nat.reduceAdd, Nat.reduceLeDiff, Nat.reduceEqDiff, Int.reduceToNat, Nat.reduceLT, ↓reduceIte, Int.reduceEq, Int.reduceLT, Int.reduceLE, hr1, hr2, hle]
    obtain ⟨hD, hDe⟩ : ∃ hD, hD = (((h3.push (.cells 0 false [.nils, .nils, .nils])).push (.cells 0 false [.int .i64 0, .int .i64 0, .int .i64 0])).set h3.n (.cells 0 false row3)).set (h3.n + 1) (.cells 0 false [.int .i64 7, .int .i64 (-1), .int .i64 r7]) := ⟨_, rfl⟩
    have fD : HFrame h3 hD [] [] := by rw [hDe]; exact ((((HFrame.refl (by simp)).pushTmp _).pushTmp _).setTmp (Nat.le_refl _) _).setTmp (by omega) _
    rw [← hDe]
    have rD : SlRd hD 1 encB ov (wout p) := (s2.rd.keep f3).keep fD
    refine AM.opI_of (SlOf.app (SlOf.nil (enc := encB)) rD (fun _ => rfl) (fun _ => rfl) (by simp; omega) fun mv h4 F4 s4 f4 => ?_)
    rw [List.nil_append] at s4
    have f4' := HFrame.non f4
    simp -implicitDefEqProofs (disch := first | decide | assumption | omega | (simp -implicitDefEqProofs only [AM.RN]; first | done | omega) | fail) only [↓AM.R0, AM.R1, AM.R2, Nat.reduceAdd, Nat.reduceLeDiff, Nat.reduceEqDiff, Int.reduceToNat, Nat.reduceLT, ↓reduceIte, Int.reduceEq, Int.reduceLT, Int.reduceLE]
    refine AM.opI_of (s4.app1 (fun _ => rfl) (fun _ => rfl) (by omega) tail fun mv2 h5 F5 s5 f5 => ?_)
    have hd2 : pdec (wout p ++ [tail]) = .bad 7 (wout p).length := by
      unfold pdec
      rw [if_neg (by simp; omega), hout]; exact thereMore hlo tail
    simp -implicitDefEqProofs (disch := first | decide | assumption | omega | (simp -implicitDefEqProofs only [AM.RN]; first | done | omega) | fail) only [↓AM.R0, AM.R1, AM.R2, Nat.reduceAdd, Nat.reduceLeDiff, Nat.reduceEqDiff, Int.reduceToNat, Nat.reduceLT, ↓reduceIte, Int.reduceEq, Int.reduceLT, Int.reduceLE]
    refine AM.callI_of (decode (.inl s5.rd) (fun b hb => by
      rcases List.mem_append.1 hb with e | e
      · exact hnb b e
      · simp only [List.mem_cons, List.not_mem_nil, or_false] at e; subst e; exact htail) [] (by simp)) ?_
    rintro r h6 ⟨f6, row6, rfl, hr3, hr4, hrow6⟩
    rw [hd2]
    simp only [PR.err, PR.fn, PR.pl]
    simp -implicitDefEqProofs (disch := first | decide | assumption | omega | (simp -implicitDefEqProofs only [AM.RN]; first | done | omega) | fail) only [↓AM.R0, AM.R1, AM.R2, Nat.reduceAdd, Nat.reduceLeDiff, Nat.reduceEqDiff, Int.reduceToNat, Nat.reduceLT, ↓reduceIte, Int.reduceEq, Int.reduceLT, Int.reduceLE, hr3, hr4, lo]
    subst hQ
    rfl
end Go.Proofs.Ytfagngiceofoeaa.Cd

namespace Go.Proofs.Ytfagngiceofoeaa.Cd
open Go Go.AM Go.Proofs.Ytfagngiceofoeaa.AmGC
attribute [local irreducible] AM.wp AM.wpIs AM.wpTr AM.opI AM.gI AM.cI AM.trI AM.callI AM.fnI AM.trG AM.trOp AM.trCall AM.seqC AM.loopI
set_option maxRecDepth 100000
set_option linter.unusedVariables false
set_option linter.unusedSimpArgs false

def immP (imm n : Nat) : PProg := ⟨[], [], [⟨0, [0], [], [⟨1, n, 0, 0, imm, []⟩]⟩]⟩
theorem immLo {imm n : Nat} (h1 : imm < 18446744073709551616) (h2 : n ≤ 65535) : (immP imm n).Lo := by
  refine ⟨⟨by simp [immP], by simp [immP]⟩, ⟨by simp [immP], by simp [immP]⟩, ⟨by simp [immP], fun f hf => ?_⟩⟩
  simp only [immP, List.mem_cons, List.not_mem_nil, or_false] at hf
  subst hf
  refine ⟨by simp, ⟨by simp, by simp⟩, ⟨by simp, by simp⟩, ⟨by simp, fun i hi => ?_⟩⟩
  simp only [List.mem_cons, List.not_mem_nil, or_false] at hi
  subst hi
  exact ⟨by simp, by simp only; omega, by simp, by simp, h1, by simp, by simp⟩
theorem immLen (imm n : Nat) : (eP (immP imm n)).length = 12 + (wordB n).length + (wordB imm).length := by
  have w0 : wordB 0 = [0] := wordB_small (by decide)
  have w1 : wordB 1 = [1] := wordB_small (by decide)
  simp [eP, immP, eF, eI, eK, w0, w1]
  omega

set_option maxHeartbeats 2000000 in
theorem lawImms (h : AHeap) (imm n : Nat) (h1 : imm < 18446744073709551616) (h2 : n ≤ 65535) : CallP AP 8 [.int .u64 imm, .int .u16 n] h fun r h' => r = .bool true := by
  refine callP (rfl : Tr.get AP 8 = some A8) ?_
  generalize hQ : (fun (r : AVal) (h' : AHeap) => _) = Q
  have hlo := immLo h1 h2
  have l10 := wordB_len10 (n := imm) (by omega)
  have l10' := wordB_len10 (n := n) (by omega)
  have hlen := immLen imm n
  obtain ⟨hr0, ho0⟩ := enc_of hlo (by omega)
  have hdp := dec_enc hlo.ok hr0
  simp -implicitDefEqProofs (disch := first | decide | assumption | omega | (simp -implicitDefEqProofs only [AM.RN]; first | done | omega) | fail) only [↓AM.R0, AM.R1, AM.R2, Nat.reduceAdd, Nat.reduceLeDiff, Nat.reduceEqDiff, Int.reduceToNat, Nat.reduceLT, ↓reduceIte, Int.reduceEq, Int.reduceLT, Int.reduceLE]
  refine AM.callI_of (small h) ?_
  rintro r h3 ⟨rfl, f3, n3, g1, g2, g3⟩
  have wn : IntKind.i64.wrap (n : Int) = (n : Int) := wrap64 (by omega) (by omega)
  simp -implicitDefEqProofs (disch := first | decide | assumption | omega | (simp -implicitDefEqProofs only [AM.RN]; first | done | omega) | fail) only [↓AM.R0, AM.R1, AM.R2, Nat.reduceAdd, Nat.reduceLeDiff, Nat.reduceEqDiff, Int.reduceToNat, Nat.reduceLT, ↓reduceIte, Int.reduceEq, Int.reduceLT, Int.reduceLE, g1, g2, g3, wn]
  obtain ⟨hA, hAe⟩ : ∃ hA, hA = (((h3.push (.cells 0 false [.nils, .nils, .nils])).set h3.n (.cells 0 false [.nils, .nils, .sl (h.n + 3) 0 0 1 4])).set (h.n + 2) (.cells 0 false [.int .i64 1, .int .i64 0, .int .i64 0, .int .i64 0, .int .u64 imm, .nils])).set (h.n + 2) (.cells 0 false [.int .i64 1, .int .i64 n, .int .i64 0, .int .i64 0, .int .u64 imm, .nils]) := ⟨_, rfl⟩
  have nA : hA.n = h3.n + 1 := by rw [hAe]; rfl
  have a1 : hA.get (h.n + 1) = .cells 0 false [.int .i64 0] := by rw [hAe, AHeap.get_set_ne _ _ (by omega), AHeap.get_set_ne _ _ (by omega), AHeap.get_set_ne _ _ (by omega), AHeap.get_push_ne _ _ (by omega)]; exact g1
  have a2 : hA.get (h.n + 2) = .cells 0 false [.int .i64 1, .int .i64 n, .int .i64 0, .int .i64 0, .int .u64 imm, .nils] := by rw [hAe]; exact AHeap.get_set_same _ _ _
  have a3 : hA.get (h.n + 3) = .cells 0 false [.int .i64 0, .sl (h.n + 1) 0 0 1 1, .nils, .sl (h.n + 2) 0 0 1 6] := by rw [hAe, AHeap.get_set_ne _ _ (by omega), AHeap.get_set_ne _ _ (by omega), AHeap.get_set_ne _ _ (by omega), AHeap.get_push_ne _ _ (by omega)]; exact g3
  have RA : ProgR hA (immP imm n) [.nils, .nils, .sl (h.n + 3) 0 0 1 4] := smallR (by omega) (by omega) a1 a2 a3
  rw [← hAe]
  clear hAe
  refine AM.callI_of (encode' RA (sizesLo hlo) (fun f hf i hi => (hlo.ok.funcs f hf).code i hi |>.imm)) ?_
  rintro r h4 ⟨ov, Fo, f4, rfl, s4⟩
  have lo := s4.len
  rw [hr0]
  simp -implicitDefEqProofs (disch := first | decide | assumption | omega | (simp -implicitDefEqProofs only [AM.RN]; first | done | omega) | fail) only [↓AM.R0, AM.R1, AM.R2, Nat.reduceAdd, Nat.reduceLeDiff, Nat.reduceEqDiff, Int.reduceToNat, Nat.reduceLT, ↓reduceIte, Int.reduceEq, Int.reduceLT, Int.reduceLE]
  refine AM.callI_of (decode (.inl s4.rd) (wout_byte _ hlo.ok) [] (by simp)) ?_
  rintro r h5 ⟨f5, row, rfl, hx1, hx2, hrow⟩
  have ht : List.take 3 row = row := List.take_of_length_le (by omega)
  rw [hdp] at hrow ⊢
  simp only [PR.err, PR.fn, PR.pl, PR.prog] at hrow ⊢
  have hrow : ProgS h5 (immP imm n) row := ProgS.unmask hrow
  simp -implicitDefEqProofs (disch := first | decide | assumption | omega | (simp -implicitDefEqProofs only [AM.RN]; first | done | omega) | fail) only [↓AM.R0, AM.R1, AM.R2, Nat.reduceAdd, Nat.reduceLeDiff, Nat.reduceEqDiff, Int.reduceToNat, Nat.reduceLT, ↓reduceIte, Int.reduceEq, Int.reduceLT, Int.reduceLE, hx1, hx2]
  obtain ⟨hD, hDe⟩ : ∃ hD, hD = (((h5.push (.cells 0 false [.nils, .nils, .nils])).push (.cells 0 false [.int .i64 0, .int .i64 0, .int .i64 0])).set h5.n (.cells 0 false row)).set (h5.n + 1) (.cells 0 false [.int .i64 0, .int .i64 0, .int .i64 ((0 : Nat) : Int)]) := ⟨_, rfl⟩
  have fD : HFrame h5 hD [] [] := by rw [hDe]; exact ((((HFrame.refl (by simp)).pushTmp _).pushTmp _).setTmp (Nat.le_refl _) _).setTmp (by omega) _
  have gD : hD.get h5.n = .cells 0 false row := by rw [hDe, AHeap.get_set_ne _ _ (by omega)]; exact AHeap.get_set_same _ _ _
  have gE : hD.get (h5.n + 1) = .cells 0 false [.int .i64 0, .int .i64 0, .int .i64 ((0 : Nat) : Int)] := by rw [hDe]; exact AHeap.get_set_same _ _ _
  have nD : hD.n = h5.n + 2 := by rw [hDe]; rfl
  rw [← hDe]
  refine AM.callI_of (awake hD) ?_
  rintro r h6 ⟨rfl, f6⟩
  have gD6 := (f6.get h5.n (by omega) (by simp)).trans gD
  have gE6 := (f6.get (h5.n + 1) (by omega) (by simp)).trans gE
  have n6 := f6.n
  have k6 := HFrame.keepR (fD.trans f6)
  obtain ⟨tv, gv, fv, rfl, _, _, t3⟩ := ProgS.mono k6.1 k6.2 hrow
  obtain ⟨j, g, off, vs, ro, frow, rfl, x2, x3, x4, x5, x6, sv, rv, cv, rfl, _, _, t4⟩ := SlR.atv t3.slR (i := 0) rfl
  obtain ⟨j2, gg2, off2, vs2, ro2, irow, rfl, y2, y3, y4, y5, y6, _, lv, rfl, ls⟩ := SlR.atv t4.slR (i := 0) rfl
  have lc := ls.cells
  simp only [Nat.zero_mul, Nat.add_zero] at x4 x5 y4 y5
  simp only [show (immP imm n).funcs.length = 1 from rfl, List.length_cons, List.length_nil, Nat.zero_add] at gD6 gD ⊢
  have ex1 : ∀ k, k < 4 → vs[off + k]? = ([.int .i64 0, sv, rv, .sl j2 gg2 off2 1 6] : List AVal)[k]? := fun k hk => by
    have := congrArg (fun l => l[k]?) x5
    simp only [List.getElem?_take, if_pos hk, List.getElem?_drop] at this
    exact this
  have ex3 : vs[off + 3]? = some (.sl j2 gg2 off2 1 6) := ex1 3 (by omega)
  have lov : ∀ h', lenV h' ov = some (.int .i64 ((wout (immP imm n)).length : Nat), h') := lo
  have hc1 : decide (((1 : Nat) : Int) = 1) = true := rfl
  have e1 : vs[off + 3]? = some (.sl j2 gg2 off2 1 6) := ex3
  simp -implicitDefEqProofs (disch := first | decide | assumption | omega | (simp -implicitDefEqProofs only [AM.RN]; first | done | omega) | fail) only [↓AM.R0, AM.R1, AM.R2, Nat.reduceAdd, Nat.reduceLeDiff, Nat.reduceEqDiff, Int.reduceToNat, Nat.reduceLT, ↓reduceIte, Int.reduceEq, Int.reduceLT, Int.reduceLE, gD6, gE6, x2, ex3, hc1]
  have lb : ∀ m : Nat, 127 < m → (wordB m).length = (wordB (m / 128)).length + 1 := fun m hm => by rw [wordB_step hm]; rfl
  have lb1 : ∀ m : Nat, ¬ 127 < m → (wordB m).length = 1 := fun m hm => by rw [wordB_small (by omega)]; rfl
  have o3 : (7 : Int) ≤ (IntKind.u64.bits : Nat) := by simp [IntKind.bits]
  have sh : ∀ m : Nat, m >>> 7 = m / 128 := fun m => by rw [Nat.shiftRight_eq_div_pow]
  refine AM.loopI_of (fun k e h' => ∃ (m d : Nat), k = m ∧ m < 18446744073709551616 ∧ d ≤ 10 ∧ e.val 0 = .int .u64 imm ∧ e.val 1 = .int .u16 n ∧ e.val 6 = ov ∧ e.val 8 = .ptr h5.n 0 0 ∧ e.val 10 = .int .i64 ((1 + d : Nat) : Int) ∧ e.val 11 = .int .u64 m ∧ d + (wordB m).length = (wordB imm).length ∧ h' = h6) imm ?_ ?_
  · refine ⟨imm, 0, rfl, h1, by omega, ?_, ?_, ?_, ?_, ?_, ?_, by omega, rfl⟩ <;> simp -implicitDefEqProofs (disch := first | decide | assumption | omega | (simp -implicitDefEqProofs only [AM.RN]; first | done | omega) | fail) only [↓AM.R0, AM.R1, AM.R2, Nat.reduceAdd, Nat.reduceLeDiff, Nat.reduceEqDiff, Int.reduceToNat, Nat.reduceLT, ↓reduceIte, Int.reduceEq, Int.reduceLT, Int.reduceLE] <;> rfl
  · rintro k e h' ⟨m, d, hk, hm64, hd10, e0, e1', e6, e8, e10, e11, hwl, rfl⟩
    simp -implicitDefEqProofs (disch := first | decide | assumption | omega | (simp -implicitDefEqProofs only [AM.RN]; first | done | omega) | fail) only [↓AM.R0, AM.R1, AM.R2, Nat.reduceAdd, Nat.reduceLeDiff, Nat.reduceEqDiff, Int.reduceToNat, Nat.reduceLT, ↓reduceIte, Int.reduceEq, Int.reduceLT, Int.reduceLE, e0, e1', e6, e8, e10, e11]
    refine AM.cI_bool (fun hb => ?_) (fun hb => ?_)
    · simp only [decide_eq_true_eq] at hb
      have hl := lb m (by omega)
      have hw : IntKind.i64.wrap (((1 + d : Nat) : Int) + 1) = ((1 + (d + 1) : Nat) : Int) := by rw [wrap64 (by omega) (by omega)]; omega
      simp -implicitDefEqProofs (disch := first | decide | assumption | omega | (simp -implicitDefEqProofs only [AM.RN]; first | done | omega) | fail) only [↓AM.R0, AM.R1, AM.R2, Nat.reduceAdd, Nat.reduceLeDiff, Nat.reduceEqDiff, Int.reduceToNat, Nat.reduceLT, ↓reduceIte, Int.reduceEq, Int.reduceLT, Int.reduceLE, e0, e1', e6, e8, e10, e11, hw, sh]
      exact ⟨m / 128, by omega, m / 128, d + 1, rfl, by omega, by omega, rfl, rfl, by omega⟩
    · simp only [decide_eq_false_iff_not] at hb
      have hl := lb1 m (by omega)
      have wu : IntKind.u64.wrap (n : Int) = (n : Int) := wrapU64 (by omega) (by omega)
      simp -implicitDefEqProofs (disch := first | decide | assumption | omega | (simp -implicitDefEqProofs only [AM.RN]; first | done | omega) | fail) only [↓AM.R0, AM.R1, AM.R2, Nat.reduceAdd, Nat.reduceLeDiff, Nat.reduceEqDiff, Int.reduceToNat, Nat.reduceLT, ↓reduceIte, Int.reduceEq, Int.reduceLT, Int.reduceLE, e0, e1', e6, e8, e10, wu]
      clear e11 hm64 hk
      refine AM.loopI_of (fun k e hx => ∃ (m d2 : Nat), k = m ∧ m ≤ 65535 ∧ d2 ≤ 10 ∧ e.val 0 = .int .u64 imm ∧ e.val 1 = .int .u16 n ∧ e.val 6 = ov ∧ e.val 8 = .ptr h5.n 0 0 ∧ e.val 10 = .int .i64 ((1 + d + d2 : Nat) : Int) ∧ e.val 12 = .int .u64 m ∧ d2 + (wordB m).length = (wordB n).length ∧ hx = h') n ?_ ?_
      · refine ⟨n, 0, rfl, h2, by omega, ?_, ?_, ?_, ?_, ?_, ?_, by omega, rfl⟩ <;> simp -implicitDefEqProofs (disch := first | decide | assumption | omega | (simp -implicitDefEqProofs only [AM.RN]; first | done | omega) | fail) only [↓AM.R0, AM.R1, AM.R2, Nat.reduceAdd, Nat.reduceLeDiff, Nat.reduceEqDiff, Int.reduceToNat, Nat.reduceLT, ↓reduceIte, Int.reduceEq, Int.reduceLT, Int.reduceLE, e0, e1', e6, e8, e10] <;> rfl
      · clear e0 e1' e6 e8 e10 e
        rintro k e hx ⟨m2, d2, hk2, hm2, hd2, e0, e1', e6, e8, e10, e12, hwl2, rfl⟩
        simp -implicitDefEqProofs (disch := first | decide | assumption | omega | (simp -implicitDefEqProofs only [AM.RN]; first | done | omega) | fail) only [↓AM.R0, AM.R1, AM.R2, Nat.reduceAdd, Nat.reduceLeDiff, Nat.reduceEqDiff, Int.reduceToNat, Nat.reduceLT, ↓reduceIte, Int.reduceEq, Int.reduceLT, Int.reduceLE, e0, e1', e6, e8, e10, e12]
        refine AM.cI_bool (fun hb2 => ?_) (fun hb2 => ?_)
        · simp only [decide_eq_true_eq] at hb2
          have hl2 := lb m2 (by omega)
          have hw : IntKind.i64.wrap (((1 + d + d2 : Nat) : Int) + 1) = ((1 + d + (d2 + 1) : Nat) : Int) := by rw [wrap64 (by omega) (by omega)]; omega
          simp -implicitDefEqProofs (disch := first | decide | assumption | omega | (simp -implicitDefEqProofs only [AM.RN]; first | done | omega) | fail) only [↓AM.R0, AM.R1, AM.R2, Nat.reduceAdd, Nat.reduceLeDiff, Nat.reduceEqDiff, Int.reduceToNat, Nat.reduceLT, ↓reduceIte, Int.reduceEq, Int.reduceLT, Int.reduceLE, e0, e1', e6, e8, e10, e12, hw, sh]
          exact ⟨m2 / 128, by omega, m2 / 128, d2 + 1, rfl, by omega, by omega, rfl, rfl, by omega⟩
        · simp only [decide_eq_false_iff_not] at hb2
          have hl2 := lb1 m2 (by omega)
          have hwf : IntKind.i64.wrap (13 + ((1 + d + d2 : Nat) : Int)) = ((14 + d + d2 : Nat) : Int) := by rw [wrap64 (by omega) (by omega)]; omega
          have hfin : decide ((((wout (immP imm n)).length : Nat) : Int) = ((14 + d + d2 : Nat) : Int)) = true := by
            rw [decide_eq_true_eq, ho0, hlen]; omega
          have y5' : (vs2.drop off2).take 6 = [.int .i64 1, .int .i64 n, .int .i64 0, .int .i64 0, .int .u64 imm, lv] := y5
          have y4' : off2 + 6 ≤ vs2.length := by omega
          simp -implicitDefEqProofs (disch := first | decide | assumption | omega | (simp -implicitDefEqProofs only [AM.RN]; first | done | omega) | fail) only [↓AM.R0, AM.R1, AM.R2, Nat.reduceAdd, Nat.reduceLeDiff, Nat.reduceEqDiff, Int.reduceToNat, Nat.reduceLT, ↓reduceIte, Int.reduceEq, Int.reduceLT, Int.reduceLE, e0, e1', e6, e8, e10, e12, gD6, x2, e1, y2, y5', wn, lov, hwf, hfin, lc.2]
          subst hQ
          rfl
end Go.Proofs.Ytfagngiceofoeaa.Cd

