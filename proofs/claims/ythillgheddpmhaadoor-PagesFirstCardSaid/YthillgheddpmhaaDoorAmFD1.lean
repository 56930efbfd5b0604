/-
  What the functions of this seat do, on the machine: lemmas for the laws.
-/
import Derived.Test.YthillgheddpmhaaDoorAmFK
import Derived.Test.YthillgheddpmhaaDoorAmFD0
namespace Go.Proofs.YthillgheddpmhaaDoor.Pg
open Go Go.AM Go.Proofs.YthillgheddpmhaaDoor.AmGF
attribute [local irreducible] AM.wp AM.wpIs AM.wpTr AM.opI AM.gI AM.cI AM.trI AM.callI AM.fnI AM.trG AM.trOp AM.trCall AM.seqC AM.loopI
set_option maxRecDepth 100000
set_option linter.unusedVariables false
set_option linter.unusedSimpArgs false

theorem Seek.yes {f : Nat → Bool} {k b r : Nat} (S : Seek f k b r) (k1 : 1 ≤ k) (hb : f b = true) : (r + 1 = k → FirstAt f k (b + 1 - k)) ∧ (r + 1 ≠ k → Seek f k (b + 1) (r + 1)) := by
  have hl := S.le
  have hrk : r < k := by
    rcases Nat.lt_or_ge r k with q | q
    · exact q
    · exact absurd (S.row.sub (q := b - r) (j := k) (Nat.le_refl _) (by omega)) (S.no _ (by omega))
  have hrow : Row f (b - r) (r + 1) := S.row.join (q := b) (j := 1) (fun t ht => by rw [show b + t = b by omega]; exact hb) (by omega)
  constructor
  · intro e
    refine ⟨by rw [← e, show b + 1 - (r + 1) = b - r by omega]; exact hrow, fun q hq => S.no q (by omega)⟩
  · intro e
    refine ⟨by omega, by rw [show b + 1 - (r + 1) = b - r by omega]; exact hrow, fun c => by rw [show b + 1 - (r + 1) - 1 = b - r - 1 by omega]; exact S.mx (by omega), fun q hq hr => ?_⟩
    rcases Nat.lt_or_ge b (q + k) with c | c
    · have h1 := S.mx (by omega)
      have h2 := hr (b - r - 1 - q) (by omega)
      rw [show q + (b - r - 1 - q) = b - r - 1 by omega, h1] at h2
      cases h2
    · exact S.no q c hr
theorem Seek.no' {f : Nat → Bool} {k b r : Nat} (S : Seek f k b r) (k1 : 1 ≤ k) (hb : f b = false) : Seek f k (b + 1) 0 := by
  refine ⟨by omega, fun t ht => by omega, fun _ => hb, fun q hq hr => ?_⟩
  rcases Nat.lt_or_ge b (q + k) with c | c
  · have h2 := hr (b - q) (by omega)
    rw [show q + (b - q) = b by omega, hb] at h2
    cases h2
  · exact S.no q c hr
theorem FirstAt.uniq {f : Nat → Bool} {k a b : Nat} (h1 : FirstAt f k a) (h2 : FirstAt f k b) : a = b := by
  have := h1.le h2.1
  have := h2.le h1.1
  omega

set_option maxHeartbeats 8000000 in
theorem lawFirst {h : AHeap} (T : TabR h) {v : AVal} {fs : List Int} (sl : SlIn h 1 (fun x : Int => [.int .u16 x]) v fs) (hfs : ∀ x, x ∈ fs → 0 ≤ x ∧ x ≤ 65535) (hlen : fs.length ≤ 9223372036854775807) {n w : Int} (hn : 0 ≤ n ∧ n ≤ 65535) (hw : 0 ≤ w ∧ w ≤ 255) :
    CallP AP 3 [.int .u16 n, v, .int .u8 w] h fun r h' => HFrame h h' [] [] ∧ r = .bool true := by
  refine callP (rfl : Tr.get AP 3 = some A3) ?_
  generalize hQ : (fun (r : AVal) (h' : AHeap) => _) = Q
  obtain ⟨n, rfl⟩ : ∃ a : Nat, n = a := ⟨n.toNat, by omega⟩
  obtain ⟨w, rfl⟩ : ∃ a : Nat, w = a := ⟨w.toNat, by omega⟩
  have w1 : (n : Int).tmod 2000 = ((n % 2000 : Nat) : Int) := rfl
  have w2 : IntKind.i64.wrap ((n % 2000 : Nat) : Int) = ((n % 2000 : Nat) : Int) := wrap64 (by omega) (by omega)
  have w3 : IntKind.i64.wrap (((n % 2000 : Nat) : Int) + 1) = ((n % 2000 + 1 : Nat) : Int) := (wrap64 (by omega) (by omega)).trans (by omega)
  simp -implicitDefEqProofs (disch := first | decide | assumption | omega | (simp -implicitDefEqProofs only [AM.RN]; first | done | omega) | fail) only [↓AM.R0, AM.R1, AM.R2, Nat.reduceAdd, Nat.reduceLeDiff, Nat.reduceEqDiff, Int.reduceToNat, Nat.reduceLT, ↓reduceIte, Int.reduceEq, Int.reduceLT, Int.reduceLE, w1, w2, w3]
  generalize hA : n % 2000 + 1 = A at *
  have hA1 : 1 ≤ A := by omega
  have hA2 : A ≤ 2000 := by omega
  refine AM.callI_of (newW T (A : Int)) ?_
  rintro r h1 (⟨c, _⟩ | ⟨_, _, p, ws, lv, f1, K, hf, rfl⟩)
  · exact absurd ⟨by omega, by omega⟩ c
  rw [Int.toNat_natCast] at K hf
  have T1 := T.frame f1 (by simp)
  simp -implicitDefEqProofs (disch := first | decide | assumption | omega | (simp -implicitDefEqProofs only [AM.RN]; first | done | omega) | fail) only [↓AM.R0, AM.R1, AM.R2, Nat.reduceAdd, Nat.reduceLeDiff, Nat.reduceEqDiff, Int.reduceToNat, Nat.reduceLT, ↓reduceIte, Int.reduceEq, Int.reduceLT, Int.reduceLE]
  refine AM.callI_of (awakeW T1) ?_
  rintro r h2 ⟨f2, rfl⟩
  have K2 := K.keep f2
  have T2 := T1.frame f2 (by simp)
  simp -implicitDefEqProofs (disch := first | decide | assumption | omega | (simp -implicitDefEqProofs only [AM.RN]; first | done | omega) | fail) only [↓AM.R0, AM.R1, AM.R2, Nat.reduceAdd, Nat.reduceLeDiff, Nat.reduceEqDiff, Int.reduceToNat, Nat.reduceLT, ↓reduceIte, Int.reduceEq, Int.reduceLT, Int.reduceLE, w1, w2, w3]
  refine AM.callI_of (takeW T2 K2 ((0 : Nat) : Int) (A : Int)) ?_
  rintro r h3 ⟨ws3, lv3, f3, K3, R3⟩
  obtain ⟨d3, rfl⟩ := R3.yes hA1 (by omega) (fun q h5 h6 => by rw [hf]; exact decide_eq_true (by omega))
  have T3 := T2.frame f3 K2.R.n0
  have F3 : HFrame h h3 [] p.F := (f1.trans (f2.wide (by simp) (by simp) K.R.lt)).trans f3
  clear R3 d3 hf
  simp -implicitDefEqProofs (disch := first | decide | assumption | omega | (simp -implicitDefEqProofs only [AM.RN]; first | done | omega) | fail) only [↓AM.R0, AM.R1, AM.R2, Nat.reduceAdd, Nat.reduceLeDiff, Nat.reduceEqDiff, Int.reduceToNat, Nat.reduceLT, ↓reduceIte, Int.reduceEq, Int.reduceLT, Int.reduceLE, sl.len]
  refine AM.loopI_of (fun k e h' => ∃ (i : Nat) (ws : List Nat) (lv : List (List Sm)), k + i = fs.length ∧ e.val 2 = .int .u8 (w : Int) ∧ e.val 7 = .ptr p.id 0 0 ∧ e.val 9 = .int .i64 (A : Int) ∧ e.val 45 = v ∧ e.val 46 = .int .i64 (fs.length : Int) ∧ e.val 47 = .int .i64 (i : Int) ∧ HFrame h h' [] p.F ∧ PgV h' p A ws lv) fs.length ?_ ?_
  · refine ⟨0, ws3, lv3, by omega, ?_, ?_, ?_, ?_, ?_, ?_, F3, K3⟩ <;> simp -implicitDefEqProofs (disch := first | decide | assumption | omega | (simp -implicitDefEqProofs only [AM.RN]; first | done | omega) | fail) only [↓AM.R0, AM.R1, AM.R2, Nat.reduceAdd, Nat.reduceLeDiff, Nat.reduceEqDiff, Int.reduceToNat, Nat.reduceLT, ↓reduceIte, Int.reduceEq, Int.reduceLT, Int.reduceLE] <;> rfl
  clear F3 K3 T3 K2 K T2 T1
  rintro k e h4 ⟨i, ws4, lv4, hk, e2, e7, e9, e45, e46, e47, F4, K4⟩
  have T4 := T.frame F4 (by simp)
  simp -implicitDefEqProofs (disch := first | decide | assumption | omega | (simp -implicitDefEqProofs only [AM.RN]; first | done | omega) | fail) only [↓AM.R0, AM.R1, AM.R2, Nat.reduceAdd, Nat.reduceLeDiff, Nat.reduceEqDiff, Int.reduceToNat, Nat.reduceLT, ↓reduceIte, Int.reduceEq, Int.reduceLT, Int.reduceLE, e46, e47]
  refine AM.cI_bool (fun hb => ?_) (fun hb => ?_)
  · simp only [decide_eq_true_eq] at hb
    obtain ⟨x, hx⟩ : ∃ x, fs[i]? = some x := ⟨_, List.getElem?_eq_getElem (by omega)⟩
    obtain ⟨hx0, hx1⟩ := hfs x (List.mem_of_getElem? hx)
    obtain ⟨x, rfl⟩ : ∃ a : Nat, x = a := ⟨x.toNat, by omega⟩
    have s4 := sl.keep F4
    obtain ⟨id, g, off, vs, ro, x1, x2, x3, x4⟩ := (s4.rd hx).ix1 hx .i64
    have v1 : IntKind.i64.wrap (x : Int) = (x : Int) := wrap64 (by omega) (by omega)
    have v2 : (x : Int).tmod (A : Int) = ((x % A : Nat) : Int) := rfl
    have hxa : x % A < A := Nat.mod_lt _ hA1
    have v3 : binV h4 .shr (.int .u16 (x : Int)) (.int .u64 11) = some (.int .u16 ((x >>> 11 : Nat) : Int), h4) := by
      have := bin_shr (h := h4) .u16 .u64 (x : Int) ((11 : Nat) : Int) (by omega) (by omega) (by decide)
      simpa using this
    have hx11 : x >>> 11 ≤ 65535 := by rw [Nat.shiftRight_eq_div_pow]; exact Nat.le_trans (Nat.div_le_self _ _) (by omega)
    generalize x >>> 11 = y at v3 hx11
    have v4 : IntKind.i64.wrap (y : Int) = (y : Int) := wrap64 (by omega) (by omega)
    have v5 : IntKind.i64.wrap (1 + (y : Int)) = ((1 + y : Nat) : Int) := (wrap64 (by omega) (by omega)).trans (by omega)
    have v6 : IntKind.i64.wrap ((i : Int) + 1) = ((i + 1 : Nat) : Int) := (wrap64 (by omega) (by omega)).trans (by omega)
    simp -implicitDefEqProofs (disch := first | decide | assumption | omega | (simp -implicitDefEqProofs only [AM.RN]; first | done | omega) | fail) only [↓AM.R0, AM.R1, AM.R2, Nat.reduceAdd, Nat.reduceLeDiff, Nat.reduceEqDiff, Int.reduceToNat, Nat.reduceLT, ↓reduceIte, Int.reduceEq, Int.reduceLT, Int.reduceLE, e7, e9, e45, e47, x1, x2, x4, v1, v2, v3, v4, v5]
    refine AM.callI_of (freeW T4 K4 ((x % A : Nat) : Int) ((1 + y : Nat) : Int)) ?_
    rintro r h5 ⟨ws5, lv5, f5, K5, _⟩
    simp -implicitDefEqProofs (disch := first | decide | assumption | omega | (simp -implicitDefEqProofs only [AM.RN]; first | done | omega) | fail) only [↓AM.R0, AM.R1, AM.R2, Nat.reduceAdd, Nat.reduceLeDiff, Nat.reduceEqDiff, Int.reduceToNat, Nat.reduceLT, ↓reduceIte, Int.reduceEq, Int.reduceLT, Int.reduceLE, e47, v6]
    exact ⟨k - 1, by omega, i + 1, ws5, lv5, by omega, e2, e7, e9, e45, e46, rfl, F4.trans f5, K5⟩
  · clear hb e45 e46 e47 hk
    have u1 : (w : Int).tmod 80 = ((w % 80 : Nat) : Int) := rfl
    have u2 : IntKind.i64.wrap ((w % 80 : Nat) : Int) = ((w % 80 : Nat) : Int) := wrap64 (by omega) (by omega)
    have u3 : IntKind.i64.wrap (((w % 80 : Nat) : Int) + 1) = ((w % 80 + 1 : Nat) : Int) := (wrap64 (by omega) (by omega)).trans (by omega)
    generalize hB : w % 80 + 1 = B at *
    have hB1 : 1 ≤ B := by omega
    have hB2 : B ≤ 80 := by omega
    simp -implicitDefEqProofs (disch := first | decide | assumption | omega | (simp -implicitDefEqProofs only [AM.RN]; first | done | omega) | fail) only [↓AM.R0, AM.R1, AM.R2, Nat.reduceAdd, Nat.reduceLeDiff, Nat.reduceEqDiff, Int.reduceToNat, Nat.reduceLT, ↓reduceIte, Int.reduceEq, Int.reduceLT, Int.reduceLE, e2, u1, u2, u3]
    refine AM.loopI_of (fun k e h' => ∃ (i : Nat) (sv : AVal) (F2 : List Nat), k + i = A ∧ e.val 7 = .ptr p.id 0 0 ∧ e.val 9 = .int .i64 (A : Int) ∧ e.val 12 = .int .i64 (B : Int) ∧ e.val 13 = sv ∧ e.val 14 = .int .i64 (i : Int) ∧ SlOf h' 1 (fun b : Bool => [.bool b]) sv ((List.range i).map (fw ws4)) F2 ∧ HFrame h4 h' [] F2) A ?_ ?_
    · refine ⟨0, .nils, [], by omega, ?_, ?_, ?_, ?_, ?_, SlOf.nil, HFrame.refl (by simp)⟩ <;> simp -implicitDefEqProofs (disch := first | decide | assumption | omega | (simp -implicitDefEqProofs only [AM.RN]; first | done | omega) | fail) only [↓AM.R0, AM.R1, AM.R2, Nat.reduceAdd, Nat.reduceLeDiff, Nat.reduceEqDiff, Int.reduceToNat, Nat.reduceLT, ↓reduceIte, Int.reduceEq, Int.reduceLT, Int.reduceLE, e7, e9] <;> rfl
    clear e2 e7 e9
    rintro k e h5 ⟨i, sv, F2, hk, e7, e9, e12, e13, e14, so, F5⟩
    have K5 := K4.keep F5
    simp -implicitDefEqProofs (disch := first | decide | assumption | omega | (simp -implicitDefEqProofs only [AM.RN]; first | done | omega) | fail) only [↓AM.R0, AM.R1, AM.R2, Nat.reduceAdd, Nat.reduceLeDiff, Nat.reduceEqDiff, Int.reduceToNat, Nat.reduceLT, ↓reduceIte, Int.reduceEq, Int.reduceLT, Int.reduceLE, e9, e14]
    refine AM.cI_bool (fun hc => ?_) (fun hc => ?_)
    · simp only [decide_eq_true_eq] at hc
      have v6 : IntKind.i64.wrap ((i : Int) + 1) = ((i + 1 : Nat) : Int) := (wrap64 (by omega) (by omega)).trans (by omega)
      simp -implicitDefEqProofs (disch := first | decide | assumption | omega | (simp -implicitDefEqProofs only [AM.RN]; first | done | omega) | fail) only [↓AM.R0, AM.R1, AM.R2, Nat.reduceAdd, Nat.reduceLeDiff, Nat.reduceEqDiff, Int.reduceToNat, Nat.reduceLT, ↓reduceIte, Int.reduceEq, Int.reduceLT, Int.reduceLE, e7, e13, e14]
      refine AM.callI_of (usedW K5 (i : Int)) ?_
      rintro r h6 ⟨rfl, rfl⟩
      have hl1 : ((List.range i).map (fw ws4)).length = i := by simp
      simp -implicitDefEqProofs (disch := first | decide | assumption | omega | (simp -implicitDefEqProofs only [AM.RN]; first | done | omega) | fail) only [↓AM.R0, AM.R1, AM.R2, Nat.reduceAdd, Nat.reduceLeDiff, Nat.reduceEqDiff, Int.reduceToNat, Nat.reduceLT, ↓reduceIte, Int.reduceEq, Int.reduceLT, Int.reduceLE, Bool.not_not, fi_nat]
      refine AM.opI_of (SlOf.app1 so (fun _ => rfl) (fun _ => rfl) (by rw [hl1]; omega) (fw ws4 i) fun v' h7 F7 so7 f7 => ?_)
      simp -implicitDefEqProofs (disch := first | decide | assumption | omega | (simp -implicitDefEqProofs only [AM.RN]; first | done | omega) | fail) only [↓AM.R0, AM.R1, AM.R2, Nat.reduceAdd, Nat.reduceLeDiff, Nat.reduceEqDiff, Int.reduceToNat, Nat.reduceLT, ↓reduceIte, Int.reduceEq, Int.reduceLT, Int.reduceLE, e14, v6]
      refine ⟨k - 1, by omega, i + 1, v', F7, by omega, e7, e9, e12, rfl, rfl, ?_, F5.trans f7⟩
      rw [List.range_succ, List.map_append]
      exact so7
    · simp only [decide_eq_false_iff_not] at hc
      obtain rfl : i = A := by omega
      simp -implicitDefEqProofs (disch := first | decide | assumption | omega | (simp -implicitDefEqProofs only [AM.RN]; first | done | omega) | fail) only [↓AM.R0, AM.R1, AM.R2, Nat.reduceAdd, Nat.reduceLeDiff, Nat.reduceEqDiff, Int.reduceToNat, Nat.reduceLT, ↓reduceIte, Int.reduceEq, Int.reduceLT, Int.reduceLE]
      refine AM.loopI_of (fun k e h' => ∃ (a r : Nat) (first : Int), h' = h5 ∧ k + a = i ∧ e.val 7 = .ptr p.id 0 0 ∧ e.val 9 = .int .i64 (i : Int) ∧ e.val 12 = .int .i64 (B : Int) ∧ e.val 13 = sv ∧ e.val 15 = .int .i64 (r : Int) ∧ e.val 16 = .int .i64 first ∧ e.val 17 = .int .i64 (a : Int) ∧ ((first = -1 ∧ Seek (fw ws4) B a r) ∨ ∃ q : Nat, first = q ∧ FirstAt (fw ws4) B q)) i ?_ ?_
      · refine ⟨0, 0, -1, rfl, by omega, ?_, ?_, ?_, ?_, ?_, ?_, ?_, .inl ⟨rfl, ⟨by omega, fun t ht => by omega, fun c => by omega, fun q hq => by omega⟩⟩⟩ <;> simp -implicitDefEqProofs (disch := first | decide | assumption | omega | (simp -implicitDefEqProofs only [AM.RN]; first | done | omega) | fail) only [↓AM.R0, AM.R1, AM.R2, Nat.reduceAdd, Nat.reduceLeDiff, Nat.reduceEqDiff, Int.reduceToNat, Nat.reduceLT, ↓reduceIte, Int.reduceEq, Int.reduceLT, Int.reduceLE, e7, e9, e12, e13] <;> rfl
      clear e7 e9 e12 e13 e14
      rintro k e h' ⟨a, r, first, hh, hk, e7, e9, e12, e13, e15, e16, e17, hS⟩
      rw [hh]
      simp -implicitDefEqProofs (disch := first | decide | assumption | omega | (simp -implicitDefEqProofs only [AM.RN]; first | done | omega) | fail) only [AM.RGB, ↓AM.R0, AM.R1, AM.R2, Nat.reduceAdd, Nat.reduceLeDiff, Nat.reduceEqDiff, Int.reduceToNat, Nat.reduceLT, ↓reduceIte, Int.reduceEq, Int.reduceLT, Int.reduceLE, e9, e16, e17]
      refine AM.cI_bool (fun hd => ?_) (fun hd => ?_)
      · simp only [Bool.and_eq_true, decide_eq_true_eq] at hd
        obtain ⟨hd1, hd2⟩ := hd
        obtain ⟨rfl, SK⟩ : first = -1 ∧ Seek (fw ws4) B a r := by
          rcases hS with q | ⟨q, q1, _⟩
          · exact q
          · omega
        have hla : ((List.range i).map (fw ws4))[a]? = some (fw ws4 a) := by rw [List.getElem?_map, List.getElem?_range (by omega)]; rfl
        obtain ⟨id, g, off, vs, ro, x1, x2, x3, x4⟩ := so.rd.ix1 hla .i64
        have hrl := SK.le
        have v6 : IntKind.i64.wrap ((r : Int) + 1) = ((r + 1 : Nat) : Int) := (wrap64 (by omega) (by omega)).trans (by omega)
        have v7 : IntKind.i64.wrap ((a : Int) + 1) = ((a + 1 : Nat) : Int) := (wrap64 (by omega) (by omega)).trans (by omega)
        simp -implicitDefEqProofs (disch := first | decide | assumption | omega | (simp -implicitDefEqProofs only [AM.RN]; first | done | omega) | fail) only [↓AM.R0, AM.R1, AM.R2, Nat.reduceAdd, Nat.reduceLeDiff, Nat.reduceEqDiff, Int.reduceToNat, Nat.reduceLT, ↓reduceIte, Int.reduceEq, Int.reduceLT, Int.reduceLE, e13, e15, e17, x1, x2, x4, v6]
        refine AM.cI_bool (fun hf => ?_) (fun hf => ?_)
        · have hf' : fw ws4 a = false := by simpa using hf
          have d0 : decide ((0 : Int) = (B : Int)) = false := decide_eq_false (by omega)
          simp -implicitDefEqProofs (disch := first | decide | assumption | omega | (simp -implicitDefEqProofs only [AM.RN]; first | done | omega) | fail) only [↓AM.R0, AM.R1, AM.R2, Nat.reduceAdd, Nat.reduceLeDiff, Nat.reduceEqDiff, Int.reduceToNat, Nat.reduceLT, ↓reduceIte, Int.reduceEq, Int.reduceLT, Int.reduceLE, e12, e17, d0, v7]
          exact ⟨k - 1, by omega, a + 1, 0, -1, by omega, e7, e9, e13, rfl, e16, rfl, .inl ⟨rfl, SK.no' hB1 hf'⟩⟩
        · have hf' : fw ws4 a = true := by simpa using hf
          obtain ⟨y1, y2⟩ := SK.yes hB1 hf'
          simp -implicitDefEqProofs (disch := first | decide | assumption | omega | (simp -implicitDefEqProofs only [AM.RN]; first | done | omega) | fail) only [↓AM.R0, AM.R1, AM.R2, Nat.reduceAdd, Nat.reduceLeDiff, Nat.reduceEqDiff, Int.reduceToNat, Nat.reduceLT, ↓reduceIte, Int.reduceEq, Int.reduceLT, Int.reduceLE, e12]
          refine AM.cI_bool (fun hg => ?_) (fun hg => ?_)
          · have hg' : r + 1 = B := by simp only [decide_eq_true_eq] at hg; omega
            have v8 : IntKind.i64.wrap ((a : Int) - (B : Int)) = (a : Int) - (B : Int) := wrap64 (by omega) (by omega)
            have v9 : IntKind.i64.wrap ((a : Int) - (B : Int) + 1) = ((a + 1 - B : Nat) : Int) := (wrap64 (by omega) (by omega)).trans (by omega)
            simp -implicitDefEqProofs (disch := first | decide | assumption | omega | (simp -implicitDefEqProofs only [AM.RN]; first | done | omega) | fail) only [↓AM.R0, AM.R1, AM.R2, Nat.reduceAdd, Nat.reduceLeDiff, Nat.reduceEqDiff, Int.reduceToNat, Nat.reduceLT, ↓reduceIte, Int.reduceEq, Int.reduceLT, Int.reduceLE, e12, e17, v7, v8, v9]
            exact ⟨k - 1, by omega, a + 1, r + 1, ((a + 1 - B : Nat) : Int), by omega, e7, e9, e13, rfl, rfl, rfl, .inr ⟨_, rfl, y1 hg'⟩⟩
          · have hg' : r + 1 ≠ B := by simp only [decide_eq_false_iff_not] at hg; omega
            simp -implicitDefEqProofs (disch := first | decide | assumption | omega | (simp -implicitDefEqProofs only [AM.RN]; first | done | omega) | fail) only [↓AM.R0, AM.R1, AM.R2, Nat.reduceAdd, Nat.reduceLeDiff, Nat.reduceEqDiff, Int.reduceToNat, Nat.reduceLT, ↓reduceIte, Int.reduceEq, Int.reduceLT, Int.reduceLE, e12, e17, v7]
            exact ⟨k - 1, by omega, a + 1, r + 1, -1, by omega, e7, e9, e13, rfl, e16, rfl, .inl ⟨rfl, y2 hg'⟩⟩
      · have hT : (first = -1 ∧ ∀ q, ¬ Row (fw ws4) q B) ∨ ∃ q : Nat, first = q ∧ FirstAt (fw ws4) B q := by
          rcases hS with ⟨rfl, q2⟩ | q
          · have hai : a = i := by
              simp only [Bool.and_eq_false_iff, decide_eq_false_iff_not] at hd
              rcases hd with q | q
              · omega
              · omega
            refine .inl ⟨rfl, fun q hq => ?_⟩
            rcases Nat.lt_or_ge i (q + B) with c | c
            · have h9 := hq (B - 1) (by omega)
              rw [K4.out _ (by omega)] at h9; cases h9
            · exact q2.no q (by omega) hq
          · exact .inr q
        have T5 := T4.frame F5 (by simp)
        simp -implicitDefEqProofs (disch := first | decide | assumption | omega | (simp -implicitDefEqProofs only [AM.RN]; first | done | omega) | fail) only [↓AM.R0, AM.R1, AM.R2, Nat.reduceAdd, Nat.reduceLeDiff, Nat.reduceEqDiff, Int.reduceToNat, Nat.reduceLT, ↓reduceIte, Int.reduceEq, Int.reduceLT, Int.reduceLE, e7, e12]
        refine AM.callI_of (allocW T5 K5 (B : Int)) ?_
        rintro r h6 ⟨ws6, lv6, f6, K6, R6⟩
        have FF : HFrame h h6 [] [] := HFrame.non ((F4.trans (F5.wide (G := p.F) (G' := p.F) (by simp) (fun j hj => .inr hj) K4.R.lt)).trans f6)
        rcases hT with ⟨rfl, hno⟩ | ⟨q, rfl, hq⟩
        · rcases R6 with ⟨c, _⟩ | ⟨_, _, _, rfl⟩ | ⟨_, a6, c, _⟩
          · omega
          · simp -implicitDefEqProofs (disch := first | decide | assumption | omega | (simp -implicitDefEqProofs only [AM.RN]; first | done | omega) | fail) only [↓AM.R0, AM.R1, AM.R2, Nat.reduceAdd, Nat.reduceLeDiff, Nat.reduceEqDiff, Int.reduceToNat, Nat.reduceLT, ↓reduceIte, Int.reduceEq, Int.reduceLT, Int.reduceLE, e16]
            subst hQ
            exact ⟨FF, rfl⟩
          · rw [Int.toNat_natCast] at c
            exact absurd c.1 (hno _)
        · obtain ⟨a6, c1, c2, rfl⟩ := R6.here hB1 hq.1
          obtain rfl := c1.uniq hq
          have hle : a6 + B ≤ i := by
            rcases Nat.lt_or_ge i (a6 + B) with c | c
            · have h9 := hq.1 (B - 1) (by omega)
              rw [K4.out _ (by omega)] at h9; cases h9
            · exact c
          have dq : decide ((a6 : Int) < 0) = false := decide_eq_false (by omega)
          have v6 : IntKind.i64.wrap ((a6 : Int) + (B : Int)) = ((a6 + B : Nat) : Int) := (wrap64 (by omega) (by omega)).trans (by omega)
          have v7 : IntKind.i64.wrap (((a6 + B : Nat) : Int) - 1) = ((a6 + B - 1 : Nat) : Int) := (wrap64 (by omega) (by omega)).trans (by omega)
          simp -implicitDefEqProofs (disch := first | decide | assumption | omega | (simp -implicitDefEqProofs only [AM.RN]; first | done | omega) | fail) only [↓AM.R0, AM.R1, AM.R2, Nat.reduceAdd, Nat.reduceLeDiff, Nat.reduceEqDiff, Int.reduceToNat, Nat.reduceLT, ↓reduceIte, Int.reduceEq, Int.reduceLT, Int.reduceLE, e7, e12, e16, dq]
          refine AM.callI_of (usedW K6 (a6 : Int)) ?_
          rintro r h7 ⟨rfl, rfl⟩
          have z1 : fi ws6 (a6 : Int) = false := by rw [fi_nat, c2, if_pos (by omega)]
          rw [z1]
          simp -implicitDefEqProofs (disch := first | decide | assumption | omega | (simp -implicitDefEqProofs only [AM.RN]; first | done | omega) | fail) only [↓AM.R0, AM.R1, AM.R2, Nat.reduceAdd, Nat.reduceLeDiff, Nat.reduceEqDiff, Int.reduceToNat, Nat.reduceLT, ↓reduceIte, Int.reduceEq, Int.reduceLT, Int.reduceLE, e7, e12, v6, v7]
          refine AM.callI_of (usedW K6 ((a6 + B - 1 : Nat) : Int)) ?_
          rintro r h8 ⟨rfl, rfl⟩
          have z2 : fi ws6 ((a6 + B - 1 : Nat) : Int) = false := by rw [fi_nat, c2, if_pos (by omega)]
          rw [z2]
          simp -implicitDefEqProofs (disch := first | decide | assumption | omega | (simp -implicitDefEqProofs only [AM.RN]; first | done | omega) | fail) only [↓AM.R0, AM.R1, AM.R2, Nat.reduceAdd, Nat.reduceLeDiff, Nat.reduceEqDiff, Int.reduceToNat, Nat.reduceLT, ↓reduceIte, Int.reduceEq, Int.reduceLT, Int.reduceLE]
          subst hQ
          exact ⟨FF, rfl⟩
end Go.Proofs.YthillgheddpmhaaDoor.Pg

