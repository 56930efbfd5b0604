/-
  What the functions of this seat do, on the machine: lemmas for the laws.
-/
import Derived.Test.YtfagngiceofoeaaAmCK
import Derived.Test.YtfagngiceofoeaaAmCD0
namespace Go.Proofs.Ytfagngiceofoeaa.Cd
open Go Go.AM Go.Proofs.Ytfagngiceofoeaa.AmGC
attribute [local irreducible] AM.wp AM.wpIs AM.wpTr AM.opI AM.gI AM.cI AM.trI AM.callI AM.fnI AM.trG AM.trOp AM.trCall AM.seqC AM.loopI AM.wx AM.wxIs AM.wxTr AM.opX AM.gX AM.cX AM.callXI AM.fnX AM.panX AM.loopX AM.seqX AM.txI AM.txOp AM.txG AM.txFn AM.txCall
set_option maxRecDepth 100000
set_option linter.unusedVariables false
set_option linter.unusedSimpArgs false

def TypeS (h : AHeap) (t : Bool × List Int) (row : List AVal) : Prop := ∃ v, row = [.bool t.1, v] ∧ SlRd h 1 encK v t.2
def FuncS (h : AHeap) (f : PFunc) (row : List AVal) : Prop := ∃ sv rv cv, row = [.int .i64 f.params, sv, rv, cv] ∧ SlRd h 1 encK sv f.slots ∧ SlRd h 1 encK rv f.results ∧ SlRow h 6 (InsS h) cv f.code
def ProgS (h : AHeap) (p : PProg) (row : List AVal) : Prop := ∃ tv gv fv, row = [tv, gv, fv] ∧ SlRow h 2 (TypeS h) tv p.types ∧ SlRd h 1 encK gv p.globals ∧ SlRow h 4 (FuncS h) fv p.funcs

section
variable {h h' : AHeap} (hn : h.n ≤ h'.n) (k : ∀ j, j < h.n → h'.get j = h.get j)
 include hn k
theorem SlRd.mono' {m : Nat} {α : Type} {enc : α → List AVal} {v : AVal} {l : List α} (s : SlRd h m enc v l) : SlRd h' m enc v l := s.mono hn fun j hj _ => k j hj
theorem TypeS.mono {t : Bool × List Int} {row : List AVal} (r : TypeS h t row) : TypeS h' t row := by
  obtain ⟨v, e, s⟩ := r; exact ⟨v, e, SlRd.mono' hn k s⟩
theorem InsS.mono {i : PIns} {row : List AVal} (r : InsS h i row) : InsS h' i row := by
  obtain ⟨q, v, e, s⟩ := r; exact ⟨q, v, e, SlRd.mono' hn k s⟩
theorem FuncS.mono {f : PFunc} {row : List AVal} (r : FuncS h f row) : FuncS h' f row := by
  obtain ⟨a, b, c, e, s1, s2, s3⟩ := r
  exact ⟨a, b, c, e, SlRd.mono' hn k s1, SlRd.mono' hn k s2, s3.mono (fun _ _ q => InsS.mono hn k q) hn k⟩
theorem ProgS.mono {p : PProg} {row : List AVal} (r : ProgS h p row) : ProgS h' p row := by
  obtain ⟨a, b, c, e, s1, s2, s3⟩ := r
  exact ⟨a, b, c, e, s1.mono (fun _ _ q => TypeS.mono hn k q) hn k, SlRd.mono' hn k s2, s3.mono (fun _ _ q => FuncS.mono hn k q) hn k⟩
end
section
variable {h : AHeap} {M : List Nat}
theorem TypeS.unmask {t : Bool × List Int} {row : List AVal} (r : TypeS (h.masks M) t row) : TypeS h t row := by
  obtain ⟨v, e, s⟩ := r; exact ⟨v, e, s.unmask⟩
theorem InsS.unmask {i : PIns} {row : List AVal} (r : InsS (h.masks M) i row) : InsS h i row := by
  obtain ⟨q, v, e, s⟩ := r; exact ⟨q, v, e, s.unmask⟩
theorem SlRow.monoR {h : AHeap} {m : Nat} {α : Type} {R R' : α → List AVal → Prop} {v : AVal} {l : List α} (s : SlRow h m R v l) (k : ∀ a row, R a row → R' a row) : SlRow h m R' v l := s.mono k (Nat.le_refl _) fun _ _ => rfl
theorem FuncS.unmask {f : PFunc} {row : List AVal} (r : FuncS (h.masks M) f row) : FuncS h f row := by
  obtain ⟨a, b, c, e, s1, s2, s3⟩ := r; exact ⟨a, b, c, e, s1.unmask, s2.unmask, SlRow.monoR (SlRow.unmask s3) fun _ _ q => InsS.unmask q⟩
theorem ProgS.unmask {p : PProg} {row : List AVal} (r : ProgS (h.masks M) p row) : ProgS h p row := by
  obtain ⟨a, b, c, e, s1, s2, s3⟩ := r
  exact ⟨a, b, c, e, SlRow.monoR (SlRow.unmask s1) fun _ _ q => TypeS.unmask q, s2.unmask, SlRow.monoR (SlRow.unmask s3) fun _ _ q => FuncS.unmask q⟩
end
theorem InsS.r {h : AHeap} {i : PIns} {row : List AVal} (r : InsS h i row) : InsR h i row := by
  obtain ⟨q, v, e, s⟩ := r; exact ⟨q, v, e, .inl s⟩
theorem ProgS.r {h : AHeap} {p : PProg} {row : List AVal} (r : ProgS h p row) : ProgR h p row := by
  obtain ⟨a, b, c, e, s1, s2, s3⟩ := r
  refine ⟨a, b, c, e, ?_, .inl s2, ?_⟩
  · exact (SlRow.monoR s1 (R' := TypeR h) fun _ _ q => by obtain ⟨v, e, s⟩ := q; exact ⟨v, e, .inl s⟩).slR
  · exact (SlRow.monoR s3 (R' := FuncR h) fun _ _ q => by
      obtain ⟨a, b, c, e, s1, s2, s3⟩ := q
      exact ⟨a, b, c, e, .inl s1, .inl s2, (SlRow.monoR s3 fun _ _ q => InsS.r q).slR⟩).slR

def ptype (t : List Int) (p : Nat) : PR (Bool × List Int) := (pnum t 1 8 p).bind fun b p => (pkinds t 16 p).bind fun l p => .ok (decide ((b : Int) = 1), asK l) p
def pfunc (t : List Int) (p : Nat) : PR PFunc := (pnum t 65535 1 p).bind fun a p => (pkinds t 32 p).bind fun s p => (pkinds t 32 p).bind fun r p => (pnum t 256 16 p).bind fun n p => (plist (pins t) n p).bind fun c p => .ok ⟨a, asK s, asK r, c⟩ p
def pprog (t : List Int) : PR PProg := (pnum t 32 16 0).bind fun n p => (plist (ptype t) n p).bind fun ts p => (pkinds t 32 p).bind fun g p => (pnum t 32 16 p).bind fun m p => (plist (pfunc t) m p).bind fun fs p =>
  if p < t.length then .bad 7 p else .ok ⟨ts, asK g, fs⟩ p

theorem plist_step {α : Type} {f : Nat → PR α} {n p3 k q : Nat} {l : List α} (heq2 : plist f n p3 = (plist f (k + 1) q).bind fun l2 p => .ok (l ++ l2) p) {m : α} {q2 : Nat} (hm : f q = .ok m q2) :
    plist f n p3 = (plist f k q2).bind fun l2 p => .ok ((l ++ [m]) ++ l2) p := by
  rw [heq2, plist_succ, hm, PR.ok_bind, PR.bind_bind]
  simp only [PR.ok_bind, List.append_assoc, List.cons_append, List.nil_append]
theorem plist_bad {α : Type} {f : Nat → PR α} {n p3 k q : Nat} {l : List α} (heq2 : plist f n p3 = (plist f (k + 1) q).bind fun l2 p => .ok (l ++ l2) p) {e : Int} {q2 : Nat} (hm : f q = .bad e q2) : plist f n p3 = .bad e q2 := by
  rw [heq2, plist_succ, hm]; rfl
theorem plist_done {α : Type} {f : Nat → PR α} {n p3 q : Nat} {l : List α} (heq2 : plist f n p3 = (plist f 0 q).bind fun l2 p => .ok (l ++ l2) p) : plist f n p3 = .ok l q := by
  rw [heq2, plist_zero, PR.ok_bind, List.append_nil]
theorem plist_start {α : Type} (f : Nat → PR α) (n p : Nat) : plist f n p = (plist f n p).bind fun l2 p => .ok ([] ++ l2) p := by cases plist f n p <;> rfl

theorem masks_step {h h' : AHeap} {M N : List Nat} (hn : h.n ≤ h'.n) (k : ∀ j, j < h.n → j ∉ M → h'.get j = h.get j) (hN : ∀ j, j ∈ N → j ∈ M ∨ h.n ≤ j) :
    (h.masks M).n ≤ (h'.masks (N ++ M)).n ∧ ∀ j, j < (h.masks M).n → (h'.masks (N ++ M)).get j = (h.masks M).get j := by
  rw [AHeap.n_masks, AHeap.n_masks]
  refine ⟨hn, fun j hj => ?_⟩
  rw [AHeap.get_masks, AHeap.get_masks]
  by_cases e : j ∈ M
  · rw [if_pos e, if_pos (List.mem_append_right _ e)]
  · rw [if_neg e, if_neg, k j hj e]
    intro hm
    rcases List.mem_append.1 hm with q | q
    · rcases hN j q with c | c
      · exact e c
      · omega
    · exact e q
theorem masks_sub {h : AHeap} {M M2 : List Nat} (hs : ∀ j, j ∈ M2 → j ∈ M) {m : Nat} {α : Type} {enc : α → List AVal} {v : AVal} {l : List α} (s : SlRd (h.masks M) m enc v l) : SlRd (h.masks M2) m enc v l := by
  rcases s with ⟨a, b⟩ | ⟨id, g, off, vs, ro, a, b, c, d, e⟩
  · exact .inl ⟨a, b⟩
  · rw [AHeap.get_masks] at b
    rw [AHeap.n_masks] at c
    by_cases q : id ∈ M
    · rw [if_pos q] at b; cases b
    · rw [if_neg q] at b
      exact .inr ⟨id, g, off, vs, ro, a, by rw [AHeap.get_masks, if_neg (fun h => q (hs _ h))]; exact b, by rw [AHeap.n_masks]; exact c, d, e⟩
theorem TypeS.sub {h : AHeap} {M M2 : List Nat} (hs : ∀ j, j ∈ M2 → j ∈ M) {t : Bool × List Int} {row : List AVal} (r : TypeS (h.masks M) t row) : TypeS (h.masks M2) t row := by
  obtain ⟨v, e, s⟩ := r; exact ⟨v, e, masks_sub hs s⟩
theorem InsS.sub {h : AHeap} {M M2 : List Nat} (hs : ∀ j, j ∈ M2 → j ∈ M) {i : PIns} {row : List AVal} (r : InsS (h.masks M) i row) : InsS (h.masks M2) i row := by
  obtain ⟨q, v, e, s⟩ := r; exact ⟨q, v, e, masks_sub hs s⟩

theorem SlRow.subm {h : AHeap} {M M2 : List Nat} (hs : ∀ j, j ∈ M2 → j ∈ M) {m : Nat} {α : Type} {R : α → List AVal → Prop} {v : AVal} {l : List α} (s : SlRow (h.masks M) m R v l) : SlRow (h.masks M2) m R v l := by
  obtain ⟨rows, a, b, c⟩ := s; exact ⟨rows, masks_sub hs a, b, c⟩
theorem FuncS.sub {h : AHeap} {M M2 : List Nat} (hs : ∀ j, j ∈ M2 → j ∈ M) {f : PFunc} {row : List AVal} (r : FuncS (h.masks M) f row) : FuncS (h.masks M2) f row := by
  obtain ⟨a, b, c, e, s1, s2, s3⟩ := r
  exact ⟨a, b, c, e, masks_sub hs s1, masks_sub hs s2, SlRow.subm hs (SlRow.monoR s3 fun a row q => InsS.sub hs q)⟩
theorem frG {h hG h' : AHeap} {r P : Nat} {B C : List Nat} (f : HFrame h hG [r] [r]) (g : HFrame hG h' B C) (hB : ∀ j, j ∈ B → j = r ∨ h.n ≤ j) : HFrame h h' [r] [r] :=
  ⟨Nat.le_trans f.n g.n, g.g.trans f.g, fun j hj hm => (g.get j (Nat.lt_of_lt_of_le hj f.n) fun hq => by
    simp only [List.mem_cons, List.not_mem_nil, or_false] at hm
    rcases hB j hq with e | e
    · exact hm e
    · omega).trans (f.get j hj hm), fun j hj => .inl hj, fun j hj => Nat.lt_of_lt_of_le (f.lt j hj) g.n⟩
/-- A call's frame, within a wider one. -/
theorem frW {hG h1 h2 : AHeap} {r : Nat} {A : List Nat} (f : HFrame hG h1 A A) (g : HFrame h1 h2 [r] [r]) (hr : r ∈ A) : HFrame hG h2 A A :=
  f.trans (g.wide (by simpa using hr) (fun j hj => .inr hj) f.lt)
/-- A change of what is within it. -/
theorem frS {hG h1 : AHeap} {A : List Nat} (f : HFrame hG h1 A A) {i : Nat} (hi : i ∈ A) (o : AObj) : HFrame hG (h1.set i o) A A := f.trans (HFrame.set h1 i o hi f.lt)
theorem kp {h1 h2 : AHeap} {r i : Nat} {o : AObj} {F' : List Nat} (f : HFrame h1 h2 [r] F') (g : h1.get i = o) (hi : i < h1.n) (hr : i ≠ r) : h2.get i = o := (f.get i hi (by simpa using hr)).trans g


def pprog2 (t : List Int) (ts : List (Bool × List Int)) (p : Nat) : PR PProg := (pkinds t 32 p).bind fun g p => (pnum t 32 16 p).bind fun m p => (plist (pfunc t) m p).bind fun fs p => if p < t.length then .bad 7 p else .ok ⟨ts, asK g, fs⟩ p

abbrev RPprog (M0 : List Nat) (h : AHeap) (r : Nat) (v : AVal) (t : List Int) := RP h r v t.length (fun x h' (p : PProg) => ∃ row, x = .agg row ∧ row.length = 3 ∧ row.all (·.cell) = true ∧ ProgS (h'.masks M0) p row)

set_option maxHeartbeats 4000000 in
theorem rprog {h : AHeap} {r : Nat} {v : AVal} {t : List Int} (H : RdOk h r v t 0) (M0 : List Nat) (hM00 : ∀ j, j ∈ M0 → j < h.n) : CallX AP 29 [.ptr r 0 0] h (RPprog M0 h r v t (pprog t)) := by
  refine callX (rfl : Tr.get AP 29 = some A29) ?_
  generalize hQ : RPprog M0 h r v t (pprog t) = Q
  have hg := H.get
  have hlt := H.lt
  obtain ⟨K, hKe⟩ : ∃ K, K = r :: (h.n + 1) :: h.n :: M0 := ⟨_, rfl⟩
  have hKr : r ∈ K := by rw [hKe]; simp
  have hK1 : h.n + 1 ∈ K := by rw [hKe]; simp
  have hK0 : h.n ∈ K := by rw [hKe]; simp
  have hKM : ∀ j, j ∈ M0 → j ∈ K := fun j hj => by rw [hKe]; simp [hj]
  have hKlt : ∀ j, j ∈ K → j < h.n + 2 := fun j hj => by
    rw [hKe] at hj
    simp only [List.mem_cons] at hj
    rcases hj with e | e | e | e
    · omega
    · omega
    · omega
    · have := hM00 j e; omega
  clear hKe
  simp -implicitDefEqProofs (disch := first | decide | assumption | omega | (simp -implicitDefEqProofs only [AM.RN]; first | done | omega) | fail) only [↓AM.RX, AM.tx_short, ↓AM.R0, AM.R1, AM.R2, Nat.reduceAdd, Nat.reduceLeDiff, Nat.reduceEqDiff, Int.reduceToNat, Nat.reduceLT, ↓reduceIte, Int.reduceEq, Int.reduceLT, Int.reduceLE, hg]
  have f0 := HFrame.refl (h := h) (F := [r]) (by simpa using hlt)
  have fB := (f0.pushTmp (.cells 0 false [.nils, .nils, .nils])).pushTmp (.cells 0 false [.nils, .nils, .nils])
  have gB : ((h.push (.cells 0 false [.nils, .nils, .nils])).push (.cells 0 false [.nils, .nils, .nils])).get (h.n + 1) = .cells 0 false [.nils, .nils, .nils] := AHeap.get_push_same _ _
  have gB0 : ((h.push (.cells 0 false [.nils, .nils, .nils])).push (.cells 0 false [.nils, .nils, .nils])).get h.n = .cells 0 false [.nils, .nils, .nils] := by rw [AHeap.get_push_ne _ _ (by simp)]; exact AHeap.get_push_same _ _
  have gBr : ((h.push (.cells 0 false [.nils, .nils, .nils])).push (.cells 0 false [.nils, .nils, .nils])).get r = .cells 0 false [v, .int .i64 (0 : Nat)] := by rw [AHeap.get_push_ne _ _ (by simp; omega), AHeap.get_push_ne _ _ (by omega)]; exact hg
  have nB : ((h.push (.cells 0 false [.nils, .nils, .nils])).push (.cells 0 false [.nils, .nils, .nils])).n = h.n + 2 := rfl
  generalize (h.push (.cells 0 false [.nils, .nils, .nils])).push (.cells 0 false [.nils, .nils, .nils]) = hB at *
  have HB := H.next fB gBr H.le
  have W := rnum HB 32 16 (by omega)
  unfold pprog at hQ
  cases hp : pnum t 32 16 0 with
  | bad e2 p2 =>
    rw [hp] at W hQ
    refine AM.callXI_of W (fun _ _ q => by cases q.1) ?_
    rintro x h2 ⟨hx, f2⟩
    cases hx
    simp -implicitDefEqProofs (disch := first | decide | assumption | omega | (simp -implicitDefEqProofs only [AM.RN]; first | done | omega) | fail) only [↓AM.RX, AM.tx_short, ↓AM.R0, AM.R1, AM.R2, Nat.reduceAdd, Nat.reduceLeDiff, Nat.reduceEqDiff, Int.reduceToNat, Nat.reduceLT, ↓reduceIte, Int.reduceEq, Int.reduceLT, Int.reduceLE]
    subst hQ
    exact ⟨rfl, fB.trans f2⟩
  | ok n p3 =>
    rw [hp] at W hQ
    refine AM.callXI_of W ?_ (fun _ _ q => by obtain ⟨_, q, _⟩ := q; cases q)
    rintro x h4 ⟨x', hx, f4, g4, hle4, rfl, hn4⟩
    cases hx
    have g41 : h4.get (h.n + 1) = _ := (f4.get (h.n + 1) (by omega) (by simp; omega)).trans gB
    have g40 : h4.get h.n = _ := (f4.get h.n (by omega) (by simp; omega)).trans gB0
    have n4 : h.n + 1 < h4.n := by have := f4.n; omega
    have f14 := fB.trans f4
    simp only [PR.ok_bind] at hQ
    simp -implicitDefEqProofs (disch := first | decide | assumption | omega | (simp -implicitDefEqProofs only [AM.RN]; first | done | omega) | fail) only [↓AM.RX, AM.tx_short, ↓AM.R0, AM.R1, AM.R2, Nat.reduceAdd, Nat.reduceLeDiff, Nat.reduceEqDiff, Int.reduceToNat, Nat.reduceLT, ↓reduceIte, Int.reduceEq, Int.reduceLT, Int.reduceLE]
    refine AM.loopX_of (fun k e h' => ∃ (l : List (Bool × List Int)) (q : Nat) (lv : AVal) (F M : List Nat), k + l.length = n ∧ e.val 0 = .ptr r 0 0 ∧ e.val 2 = .ptr h.n 0 0 ∧ e.val 3 = .ptr (h.n + 1) 0 0 ∧ e.val 7 = .int .i64 n ∧ e.val 8 = .int .i64 l.length ∧
      h'.get h.n = .cells 0 false [.nils, .nils, .nils] ∧ h'.get (h.n + 1) = .cells 0 false [lv, .nils, .nils] ∧ h.n + 1 < h'.n ∧
      RowsOf h' 2 (TypeS (h'.masks M)) lv l F ∧ (∀ j, j ∈ F → h.n + 2 ≤ j) ∧ (∀ j, j ∈ K ++ F → j ∈ M) ∧ (∀ j, j ∈ M → j < h'.n) ∧ HFrame h h' [r] [r] ∧ h'.get r = .cells 0 false [v, .int .i64 q] ∧ q ≤ t.length ∧
      plist (ptype t) n p3 = (plist (ptype t) k q).bind fun l2 p => .ok (l ++ l2) p) n ?_ ?_
    · have hF0 : ∀ j, j ∈ ([] : List Nat) → h.n + 2 ≤ j := fun j hj => nomatch hj
      have hFM0 : ∀ j, j ∈ K ++ ([] : List Nat) → j ∈ K := fun j hj => by simpa using hj
      have hM0 : ∀ j, j ∈ K → j < h4.n := fun j hj => by have := hKlt j hj; omega
      refine ⟨[], p3, .nils, [], K, ?_⟩
      simp -implicitDefEqProofs (disch := first | decide | assumption | omega | (simp -implicitDefEqProofs only [AM.RN]; first | done | omega) | fail) only [↓AM.RX, AM.tx_short, ↓AM.R0, AM.R1, AM.R2, Nat.reduceAdd, Nat.reduceLeDiff, Nat.reduceEqDiff, Int.reduceToNat, Nat.reduceLT, ↓reduceIte, Int.reduceEq, Int.reduceLT, Int.reduceLE]
      and_intros <;> first | omega | exact f14 | exact hle4 | exact rfl | exact g40 | exact g41 | exact g4 | exact (fun j hj => hj) | exact RowsOf.nil | exact hF0 | exact hFM0 | exact hM0 | exact plist_start _ _ _
    · clear g41 g40 n4 f14 g4 f4 W fB gB gB0 gBr nB HB
      rintro k e h' ⟨l, q, lv, F, M, hk, e0, e2, e3, e7, e8, g0, gI, hn', hs, hF, hFM, hM, f, g, hq, heq2⟩
      have H' := H.next f g hq
      have hrF : r ∉ F := fun hm => by have := hF r hm; omega
      have h0F : h.n ∉ F := fun hm => by have := hF _ hm; omega
      have hIF : h.n + 1 ∉ F := fun hm => by have := hF _ hm; omega
      simp -implicitDefEqProofs (disch := first | decide | assumption | omega | (simp -implicitDefEqProofs only [AM.RN]; first | done | omega) | fail) only [↓AM.RX, AM.tx_short, ↓AM.R0, AM.R1, AM.R2, Nat.reduceAdd, Nat.reduceLeDiff, Nat.reduceEqDiff, Int.reduceToNat, Nat.reduceLT, ↓reduceIte, Int.reduceEq, Int.reduceLT, Int.reduceLE, e0, e2, e3, e7, e8]
      refine AM.cX_bool (fun hb => ?_) (fun hb => ?_)
      · simp only [decide_eq_true_eq] at hb
        obtain ⟨k, rfl⟩ : ∃ m, k = m + 1 := ⟨k - 1, by omega⟩
        have hw : IntKind.i64.wrap ((l.length : Int) + 1) = ((l.length + 1 : Nat) : Int) := wrap64 (by omega) (by omega)
        simp -implicitDefEqProofs (disch := first | decide | assumption | omega | (simp -implicitDefEqProofs only [AM.RN]; first | done | omega) | fail) only [↓AM.RX, AM.tx_short, ↓AM.R0, AM.R1, AM.R2, Nat.reduceAdd, Nat.reduceLeDiff, Nat.reduceEqDiff, Int.reduceToNat, Nat.reduceLT, ↓reduceIte, Int.reduceEq, Int.reduceLT, Int.reduceLE, e0, e2, e3, e7, e8, gI]
        have W := rnum H' 1 8 (by omega)
        have hpt : ptype t q = (pnum t 1 8 q).bind fun b p => (pkinds t 16 p).bind fun l p => .ok (decide ((b : Int) = 1), asK l) p := rfl
        cases hp2 : pnum t 1 8 q with
        | bad e2 p2 =>
          rw [hp2] at W hpt
          refine AM.callXI_of W (fun _ _ q => by cases q.1) ?_
          rintro x h2 ⟨hx, f2⟩
          cases hx
          simp -implicitDefEqProofs (disch := first | decide | assumption | omega | (simp -implicitDefEqProofs only [AM.RN]; first | done | omega) | fail) only [↓AM.RX, AM.tx_short, ↓AM.R0, AM.R1, AM.R2, Nat.reduceAdd, Nat.reduceLeDiff, Nat.reduceEqDiff, Int.reduceToNat, Nat.reduceLT, ↓reduceIte, Int.reduceEq, Int.reduceLT, Int.reduceLE]
          subst hQ
          rw [plist_bad heq2 hpt]
          exact ⟨rfl, f.trans f2⟩
        | ok b q2 =>
          rw [hp2] at W hpt
          refine AM.callXI_of W ?_ (fun _ _ q => by obtain ⟨_, q, _⟩ := q; cases q)
          rintro x h5 ⟨x', hx, f5, g5, hle5, rfl, hm⟩
          cases hx
          simp -implicitDefEqProofs (disch := first | decide | assumption | omega | (simp -implicitDefEqProofs only [AM.RN]; first | done | omega) | fail) only [↓AM.RX, AM.tx_short, ↓AM.R0, AM.R1, AM.R2, Nat.reduceAdd, Nat.reduceLeDiff, Nat.reduceEqDiff, Int.reduceToNat, Nat.reduceLT, ↓reduceIte, Int.reduceEq, Int.reduceLT, Int.reduceLE, e0, e2, e3, e7, e8, gI]
          have n5 : h.n + 1 < h5.n := by have := f5.n; omega
          have g5I := kp f5 gI hn' (by omega)
          have g50 := kp f5 g0 (by omega) (by omega)
          have fT := (f5.pushTmp (.cells 0 false [.bool false, .nils])).setTmp (i := h5.n) (by have := f5.n; omega) (.cells 0 false [.bool (decide ((b : Int) = 1)), .nils])
          have gT : ((h5.push (.cells 0 false [.bool false, .nils])).set h5.n (.cells 0 false [.bool (decide ((b : Int) = 1)), .nils])).get h5.n = _ := AHeap.get_set_same _ _ _
          have nT : ((h5.push (.cells 0 false [.bool false, .nils])).set h5.n (.cells 0 false [.bool (decide ((b : Int) = 1)), .nils])).n = h5.n + 1 := by simp
          have gTr := (AHeap.get_set_ne (h5.push (.cells 0 false [.bool false, .nils])) (.cells 0 false [.bool (decide ((b : Int) = 1)), .nils]) (show r ≠ h5.n by omega)).trans ((AHeap.get_push_ne h5 (.cells 0 false [.bool false, .nils]) (show r ≠ h5.n by omega)).trans g5)
          have gTI := (AHeap.get_set_ne (h5.push (.cells 0 false [.bool false, .nils])) (.cells 0 false [.bool (decide ((b : Int) = 1)), .nils]) (show h.n + 1 ≠ h5.n by omega)).trans ((AHeap.get_push_ne h5 (.cells 0 false [.bool false, .nils]) (show h.n + 1 ≠ h5.n by omega)).trans g5I)
          have gT0 := (AHeap.get_set_ne (h5.push (.cells 0 false [.bool false, .nils])) (.cells 0 false [.bool (decide ((b : Int) = 1)), .nils]) (show h.n ≠ h5.n by omega)).trans ((AHeap.get_push_ne h5 (.cells 0 false [.bool false, .nils]) (show h.n ≠ h5.n by omega)).trans g50)
          have h5n := f5.n
          generalize (h5.push (.cells 0 false [.bool false, .nils])).set h5.n (.cells 0 false [.bool (decide ((b : Int) = 1)), .nils]) = hT at *
          have HT := H'.next fT gTr hle5
          have W := rkinds HT 16 (by omega)
          rw [PR.ok_bind] at hpt
          cases hp3 : pkinds t 16 q2 with
          | bad e2 p2 =>
            rw [hp3] at W hpt
            refine AM.callXI_of W (fun _ _ q => by cases q.1) ?_
            rintro x h2 ⟨hx, f2⟩
            cases hx
            simp -implicitDefEqProofs (disch := first | decide | assumption | omega | (simp -implicitDefEqProofs only [AM.RN]; first | done | omega) | fail) only [↓AM.RX, AM.tx_short, ↓AM.R0, AM.R1, AM.R2, Nat.reduceAdd, Nat.reduceLeDiff, Nat.reduceEqDiff, Int.reduceToNat, Nat.reduceLT, ↓reduceIte, Int.reduceEq, Int.reduceLT, Int.reduceLE]
            subst hQ
            rw [plist_bad heq2 hpt]
            exact ⟨rfl, (f.trans fT).trans f2⟩
          | ok ks q3 =>
            rw [hp3] at W hpt
            refine AM.callXI_of W ?_ (fun _ _ q => by obtain ⟨_, q, _⟩ := q; cases q)
            rintro x h6 ⟨x', hx, f6, g6, hle6, hks, hkl⟩
            cases hx
            rw [PR.ok_bind] at hpt
            have n6 : h5.n < h6.n := by have := f6.n; omega
            have g6I := kp f6 gTI (by omega) (by omega)
            have g60 := kp f6 gT0 (by omega) (by omega)
            have g6T := kp f6 gT (by omega) (by omega)
            have hksM := hks (h5.n :: M) (fun j hj => by
              rcases List.mem_cons.1 hj with e | e
              · omega
              · have := hM j e; omega)
            obtain ⟨d1, d2⟩ := hksM.cells
            simp -implicitDefEqProofs (disch := first | decide | assumption | omega | (simp -implicitDefEqProofs only [AM.RN]; first | done | omega) | fail) only [↓AM.RX, AM.tx_short, ↓AM.R0, AM.R1, AM.R2, Nat.reduceAdd, Nat.reduceLeDiff, Nat.reduceEqDiff, Int.reduceToNat, Nat.reduceLT, ↓reduceIte, Int.reduceEq, Int.reduceLT, Int.reduceLE, e0, e2, e3, e7, e8, g6T, d1, d2, g6I]
            have f06 := (fT.trans f6).setTmp (i := h5.n) (by omega) (.cells 0 false [.bool (decide ((b : Int) = 1)), x])
            have ms := masks_step (N := [h5.n]) (M := M) f06.n (fun j hj hm => f06.get j hj (fun hr => hm (hFM j (by simp at hr; simp [hr, hKr])))) (by simp; omega)
            have mt := masks_step (h := h6) (h' := h6.set h5.n (.cells 0 false [.bool (decide ((b : Int) = 1)), x])) (N := []) (M := h5.n :: M) (by simp) (fun j hj hm => AHeap.get_set_ne _ _ (by intro e; subst e; simp at hm)) (by simp)
            have hs6 := (hs.frame (h' := h6.set h5.n (.cells 0 false [.bool (decide ((b : Int) = 1)), x])) f06.n fun j hj => f06.get j (hs.lt j hj) (by simp; intro e; exact hrF (e ▸ hj))).monoR (fun a row q => TypeS.mono ms.1 ms.2 q)
            have hrow : TypeS ((h6.set h5.n (.cells 0 false [.bool (decide ((b : Int) = 1)), x])).masks ([h5.n] ++ M)) (decide ((b : Int) = 1), asK ks) [.bool (decide ((b : Int) = 1)), x] := ⟨x, rfl, SlRd.mono' mt.1 mt.2 hksM⟩
            refine AM.opX_of (hs6.app1 (a := (decide ((b : Int) = 1), asK ks)) (by omega) rfl (by simp only [List.all_cons, AM.cell_bool, d2, List.all_nil, Bool.and_self]) hrow fun v' h7 F7 s7 f7 => ?_)
            have n7 : h5.n < h7.n := by have := f7.n; simp at this; omega
            have g7I : h7.get (h.n + 1) = .cells 0 false [lv, .nils, .nils] := by rw [f7.get _ (by simp; omega) hIF, AHeap.get_set_ne _ _ (by omega)]; exact g6I
            have g70 : h7.get h.n = .cells 0 false [.nils, .nils, .nils] := by rw [f7.get _ (by simp; omega) h0F, AHeap.get_set_ne _ _ (by omega)]; exact g60
            have g7r : h7.get r = .cells 0 false [v, .int .i64 q3] := by rw [f7.get _ (by simp; omega) hrF, AHeap.get_set_ne _ _ (by omega)]; exact g6
            obtain ⟨e1', e2'⟩ := s7.cells
            simp -implicitDefEqProofs (disch := first | decide | assumption | omega | (simp -implicitDefEqProofs only [AM.RN]; first | done | omega) | fail) only [↓AM.RX, AM.tx_short, ↓AM.R0, AM.R1, AM.R2, Nat.reduceAdd, Nat.reduceLeDiff, Nat.reduceEqDiff, Int.reduceToNat, Nat.reduceLT, ↓reduceIte, Int.reduceEq, Int.reduceLT, Int.reduceLE, e0, e2, e3, e7, e8, g7I, e1', e2', hw]
            obtain ⟨f17, hF7⟩ := tmpF (n := h.n + 2) (f.trans f06) f7 (by omega) (by simp; omega) hF
            have f18 := f17.setTmp (i := h.n + 1) (by omega) (.cells 0 false [v', .nils, .nils])
            have mu := masks_step (h := h6.set h5.n (.cells 0 false [.bool (decide ((b : Int) = 1)), x])) (h' := h7.set (h.n + 1) (.cells 0 false [v', .nils, .nils])) (N := F7) (M := [h5.n] ++ M) (by have := f7.n; simpa using this)
              (fun j hj hm => by
                rw [AHeap.get_set_ne _ _ (by intro e; subst e; exact hm (List.mem_append_right _ (hFM _ (by simp [hKr, hK1, hK0]))))]
                exact f7.get j hj fun hq => hm (List.mem_append_right _ (hFM j (by simp [hq]))))
              (fun j hj => by
                rcases f7.new j hj with e | e
                · exact .inl (List.mem_append_right _ (hFM j (by simp [e])))
                · exact .inr e)
            have s8 : RowsOf (h7.set (h.n + 1) (.cells 0 false [v', .nils, .nils])) 2 (TypeS ((h7.set (h.n + 1) (.cells 0 false [v', .nils, .nils])).masks (F7 ++ ([h5.n] ++ M)))) v' (l ++ [(decide ((b : Int) = 1), asK ks)]) F7 :=
              (s7.set (fun hm => by have := hF7 _ hm; omega) _).monoR (fun a row q => TypeS.mono mu.1 mu.2 q)
            have hFM' : ∀ j, j ∈ K ++ F7 → j ∈ F7 ++ ([h5.n] ++ M) := fun j hj => by
              rcases List.mem_append.1 hj with e | e
              · exact List.mem_append_right _ (List.mem_append_right _ (hFM j (List.mem_append_left _ e)))
              · exact List.mem_append_left _ e
            have hM' : ∀ j, j ∈ F7 ++ ([h5.n] ++ M) → j < h7.n := fun j hj => by
              simp only [List.mem_cons, List.mem_append, List.not_mem_nil, or_false] at hj
              rcases hj with e | e | e
              · exact s7.lt j e
              · omega
              · have := hM j e; omega
            have heq3 := plist_step heq2 hpt
            refine ⟨k, by omega, l ++ [(decide ((b : Int) = 1), asK ks)], q3, v', F7, F7 ++ ([h5.n] ++ M), ?_⟩
            rw [List.length_append, List.length_cons, List.length_nil]
            and_intros <;> first | omega | exact g70 | exact s8 | exact hF7 | exact hFM' | exact hM' | exact f18 | exact g7r | exact heq3 | rfl
      · simp only [decide_eq_false_iff_not] at hb
        have hk0 : k = 0 := by omega
        subst hk0
        rw [plist_done heq2, PR.ok_bind] at hQ
        have hTS : SlRow (h'.masks K) 2 (TypeS (h'.masks K)) lv l :=
          ((hs.masks (M := K) fun j hj hm => by
            have h1 := hF j hj; have h2 := hKlt j hm; omega).monoR fun a row q => TypeS.sub (fun j hj => hFM j (List.mem_append_left _ hj)) q).row
        obtain ⟨c1, c2⟩ := hs.cells
        have hM2 : ∀ j, j ∈ K → j < h'.n := fun j hj => hM j (hFM j (List.mem_append_left _ hj))
        clear heq2 hs hF hFM hM hrF h0F hIF
        have W := rkinds H' 32 (by omega)
        simp -implicitDefEqProofs (disch := first | decide | assumption | omega | (simp -implicitDefEqProofs only [AM.RN]; first | done | omega) | fail) only [↓AM.RX, AM.tx_short, ↓AM.R0, AM.R1, AM.R2, Nat.reduceAdd, Nat.reduceLeDiff, Nat.reduceEqDiff, Int.reduceToNat, Nat.reduceLT, ↓reduceIte, Int.reduceEq, Int.reduceLT, Int.reduceLE, e0, e2, e3, gI]
        cases hp3 : pkinds t 32 q with
        | bad e2 p2 =>
          rw [hp3] at W hQ
          refine AM.callXI_of W (fun _ _ q => by cases q.1) ?_
          rintro x h2 ⟨hx, f2⟩
          cases hx
          simp -implicitDefEqProofs (disch := first | decide | assumption | omega | (simp -implicitDefEqProofs only [AM.RN]; first | done | omega) | fail) only [↓AM.RX, AM.tx_short, ↓AM.R0, AM.R1, AM.R2, Nat.reduceAdd, Nat.reduceLeDiff, Nat.reduceEqDiff, Int.reduceToNat, Nat.reduceLT, ↓reduceIte, Int.reduceEq, Int.reduceLT, Int.reduceLE]
          subst hQ
          exact ⟨rfl, f.trans f2⟩
        | ok gs q2 =>
          rw [hp3] at W hQ
          refine AM.callXI_of W ?_ (fun _ _ q => by obtain ⟨_, q, _⟩ := q; cases q)
          rintro gv h2 ⟨x', hx, f2, g2, hle2, hgs, hgl⟩
          cases hx
          rw [PR.ok_bind] at hQ
          have hgsM := hgs K hM2
          obtain ⟨d1, d2⟩ := hgsM.cells
          have n2 : h.n + 1 < h2.n := by have := f2.n; omega
          have g2I := kp f2 gI hn' (by omega)
          have g20 := kp f2 g0 (by omega) (by omega)
          simp -implicitDefEqProofs (disch := first | decide | assumption | omega | (simp -implicitDefEqProofs only [AM.RN]; first | done | omega) | fail) only [↓AM.RX, AM.tx_short, ↓AM.R0, AM.R1, AM.R2, Nat.reduceAdd, Nat.reduceLeDiff, Nat.reduceEqDiff, Int.reduceToNat, Nat.reduceLT, ↓reduceIte, Int.reduceEq, Int.reduceLT, Int.reduceLE, e0, e2, e3, g2I, d1, d2]
          have gG : (h2.set (h.n + 1) (.cells 0 false [lv, gv, .nils])).get (h.n + 1) = _ := AHeap.get_set_same _ _ _
          have gG0 := (AHeap.get_set_ne h2 (.cells 0 false [lv, gv, .nils]) (show h.n ≠ h.n + 1 by omega)).trans g20
          have gGr := (AHeap.get_set_ne h2 (.cells 0 false [lv, gv, .nils]) (show r ≠ h.n + 1 by omega)).trans g2
          have nG : (h2.set (h.n + 1) (.cells 0 false [lv, gv, .nils])).n = h2.n := rfl
          have fG := (f.trans f2).setTmp (i := h.n + 1) (by omega) (.cells 0 false [lv, gv, .nils])
          have m1 := masks_step (h := h') (h' := h2.set (h.n + 1) (.cells 0 false [lv, gv, .nils])) (N := []) (M := K) (by simpa using f2.n) (fun j hj hm => by
            rw [AHeap.get_set_ne _ _ (by intro e; rw [e] at hm; exact hm hK1)]; exact f2.get j hj (by simp only [List.mem_cons, List.not_mem_nil, or_false]; intro e; rw [e] at hm; exact hm hKr)) (by simp)
          have m2 := masks_step (h := h2) (h' := h2.set (h.n + 1) (.cells 0 false [lv, gv, .nils])) (N := []) (M := K) (by simp) (fun j hj hm => by
            rw [AHeap.get_set_ne _ _ (by intro e; rw [e] at hm; exact hm hK1)]) (by simp)
          have hTG := hTS.mono (fun a row q => TypeS.mono m1.1 m1.2 q) m1.1 m1.2
          have hGG := SlRd.mono' m2.1 m2.2 hgsM
          simp only [List.nil_append] at hTG hGG
          clear m1 m2 hTS hgsM hgs
          generalize h2.set (h.n + 1) (.cells 0 false [lv, gv, .nils]) = hG at *
          have HG := H.next fG gGr hle2
          have W := rnum HG 32 16 (by omega)
          cases hp4 : pnum t 32 16 q2 with
          | bad e2 p2 =>
            rw [hp4] at W hQ
            refine AM.callXI_of W (fun _ _ q => by cases q.1) ?_
            rintro x h2 ⟨hx, f2⟩
            cases hx
            simp -implicitDefEqProofs (disch := first | decide | assumption | omega | (simp -implicitDefEqProofs only [AM.RN]; first | done | omega) | fail) only [↓AM.RX, AM.tx_short, ↓AM.R0, AM.R1, AM.R2, Nat.reduceAdd, Nat.reduceLeDiff, Nat.reduceEqDiff, Int.reduceToNat, Nat.reduceLT, ↓reduceIte, Int.reduceEq, Int.reduceLT, Int.reduceLE]
            subst hQ
            exact ⟨rfl, fG.trans f2⟩
          | ok m p4 =>
            rw [hp4] at W hQ
            refine AM.callXI_of W ?_ (fun _ _ q => by obtain ⟨_, q, _⟩ := q; cases q)
            rintro x h4 ⟨x', hx, f4, g4, hle4, rfl, hm4⟩
            cases hx
            rw [PR.ok_bind] at hQ
            have g4I := kp f4 gG (by omega) (by omega)
            have g40 := kp f4 gG0 (by omega) (by omega)
            have n4 : hG.n ≤ h4.n := f4.n
            simp -implicitDefEqProofs (disch := first | decide | assumption | omega | (simp -implicitDefEqProofs only [AM.RN]; first | done | omega) | fail) only [↓AM.RX, AM.tx_short, ↓AM.R0, AM.R1, AM.R2, Nat.reduceAdd, Nat.reduceLeDiff, Nat.reduceEqDiff, Int.reduceToNat, Nat.reduceLT, ↓reduceIte, Int.reduceEq, Int.reduceLT, Int.reduceLE, e0, e2, e3]
            have f44 : HFrame hG h4 [r, h.n + 1] [r, h.n + 1] := f4.wide (by simp) (fun j hj => .inr hj) (fun j hj => by simp only [List.mem_cons, List.not_mem_nil, or_false] at hj; omega)
            clear f2 g2 g2I g20 gG gG0 gGr W e7 e8 f g H' g0 gI
            refine AM.loopX_of (fun k e h' => ∃ (l2 : List PFunc) (q : Nat) (fv : AVal) (F M : List Nat), k + l2.length = m ∧ e.val 0 = .ptr r 0 0 ∧ e.val 2 = .ptr h.n 0 0 ∧ e.val 3 = .ptr (h.n + 1) 0 0 ∧ e.val 28 = .int .i64 m ∧ e.val 29 = .int .i64 l2.length ∧
              h'.get h.n = .cells 0 false [.nils, .nils, .nils] ∧ h'.get (h.n + 1) = .cells 0 false [lv, gv, fv] ∧
              RowsOf h' 4 (FuncS (h'.masks M)) fv l2 F ∧ (∀ j, j ∈ F → hG.n ≤ j) ∧ (∀ j, j ∈ K ++ F → j ∈ M) ∧ (∀ j, j ∈ M → j < h'.n) ∧ HFrame hG h' [r, h.n + 1] [r, h.n + 1] ∧ h'.get r = .cells 0 false [v, .int .i64 q] ∧ q ≤ t.length ∧
              plist (pfunc t) m p4 = (plist (pfunc t) k q).bind fun l2' p => .ok (l2 ++ l2') p) m ?_ ?_
            · have hF0 : ∀ j, j ∈ ([] : List Nat) → hG.n ≤ j := fun j hj => nomatch hj
              have hFM0 : ∀ j, j ∈ K ++ ([] : List Nat) → j ∈ K := fun j hj => by simpa using hj
              have hM0 : ∀ j, j ∈ K → j < h4.n := fun j hj => by have := hKlt j hj; omega
              refine ⟨[], p4, .nils, [], K, ?_⟩
              simp -implicitDefEqProofs (disch := first | decide | assumption | omega | (simp -implicitDefEqProofs only [AM.RN]; first | done | omega) | fail) only [↓AM.RX, AM.tx_short, ↓AM.R0, AM.R1, AM.R2, Nat.reduceAdd, Nat.reduceLeDiff, Nat.reduceEqDiff, Int.reduceToNat, Nat.reduceLT, ↓reduceIte, Int.reduceEq, Int.reduceLT, Int.reduceLE, e0, e2, e3]
              and_intros <;> first | omega | exact f44 | exact hle4 | exact rfl | exact g40 | exact g4I | exact g4 | exact (fun j hj => hj) | exact RowsOf.nil | exact hF0 | exact hFM0 | exact hM0 | exact plist_start _ _ _
            · clear f44 g4 g40 g4I n4 f4
              clear hle4 hle2 hM2 hb e0 e2 e3 hp hp3 hp4
              rintro k e h' ⟨l2, q, fv, F, M, hk, e0, e2, e3, e28, e29, g0, gI, hs, hF, hFM, hM, f, g, hq, heq2⟩
              have fh := frG (P := 0) fG f (fun j hj => by simp only [List.mem_cons, List.not_mem_nil, or_false] at hj; omega)
              have H' := H.next fh g hq
              have nn : hG.n ≤ h'.n := f.n
              have hrF : r ∉ F := fun hm => by have := hF r hm; omega
              have h0F : h.n ∉ F := fun hm => by have := hF _ hm; omega
              have hIF : h.n + 1 ∉ F := fun hm => by have := hF _ hm; omega
              simp -implicitDefEqProofs (disch := first | decide | assumption | omega | (simp -implicitDefEqProofs only [AM.RN]; first | done | omega) | fail) only [↓AM.RX, AM.tx_short, ↓AM.R0, AM.R1, AM.R2, Nat.reduceAdd, Nat.reduceLeDiff, Nat.reduceEqDiff, Int.reduceToNat, Nat.reduceLT, ↓reduceIte, Int.reduceEq, Int.reduceLT, Int.reduceLE, e0, e2, e3, e28, e29]
              refine AM.cX_bool (fun hb => ?_) (fun hb => ?_)
              · simp only [decide_eq_true_eq] at hb
                obtain ⟨k, rfl⟩ : ∃ m, k = m + 1 := ⟨k - 1, by omega⟩
                have hw : IntKind.i64.wrap ((l2.length : Int) + 1) = ((l2.length + 1 : Nat) : Int) := wrap64 (by omega) (by omega)
                simp -implicitDefEqProofs (disch := first | decide | assumption | omega | (simp -implicitDefEqProofs only [AM.RN]; first | done | omega) | fail) only [↓AM.RX, AM.tx_short, ↓AM.R0, AM.R1, AM.R2, Nat.reduceAdd, Nat.reduceLeDiff, Nat.reduceEqDiff, Int.reduceToNat, Nat.reduceLT, ↓reduceIte, Int.reduceEq, Int.reduceLT, Int.reduceLE, e0, e2, e3, e28, e29, gI]
                have W := rnum H' 65535 1 (by omega)
                have hpt : pfunc t q = (pnum t 65535 1 q).bind fun a p => (pkinds t 32 p).bind fun s p => (pkinds t 32 p).bind fun r p => (pnum t 256 16 p).bind fun n p => (plist (pins t) n p).bind fun c p => .ok ⟨a, asK s, asK r, c⟩ p := rfl
                cases hp2 : pnum t 65535 1 q with
                | bad e2 p2 =>
                  rw [hp2] at W hpt
                  refine AM.callXI_of W (fun _ _ q => by cases q.1) ?_
                  rintro x h2 ⟨hx, f2⟩
                  cases hx
                  simp -implicitDefEqProofs (disch := first | decide | assumption | omega | (simp -implicitDefEqProofs only [AM.RN]; first | done | omega) | fail) only [↓AM.RX, AM.tx_short, ↓AM.R0, AM.R1, AM.R2, Nat.reduceAdd, Nat.reduceLeDiff, Nat.reduceEqDiff, Int.reduceToNat, Nat.reduceLT, ↓reduceIte, Int.reduceEq, Int.reduceLT, Int.reduceLE]
                  subst hQ
                  rw [plist_bad heq2 hpt]
                  exact ⟨rfl, fh.trans f2⟩
                | ok pa qa =>
                  rw [hp2] at W hpt
                  refine AM.callXI_of W ?_ (fun _ _ q => by obtain ⟨_, q, _⟩ := q; cases q)
                  rintro x h5 ⟨x', hx, f5, g5, hle5, rfl, hm⟩
                  cases hx
                  rw [PR.ok_bind] at hpt
                  simp -implicitDefEqProofs (disch := first | decide | assumption | omega | (simp -implicitDefEqProofs only [AM.RN]; first | done | omega) | fail) only [↓AM.RX, AM.tx_short, ↓AM.R0, AM.R1, AM.R2, Nat.reduceAdd, Nat.reduceLeDiff, Nat.reduceEqDiff, Int.reduceToNat, Nat.reduceLT, ↓reduceIte, Int.reduceEq, Int.reduceLT, Int.reduceLE, e0, e2, e3, e28, e29, gI]
                  obtain ⟨hT, hTe⟩ : ∃ hT, hT = (h5.push (.cells 0 false [.int .i64 0, .nils, .nils, .nils])).set h5.n (.cells 0 false [.int .i64 pa, .nils, .nils, .nils]) := ⟨_, rfl⟩
                  have h5n := f5.n
                  have fT : HFrame h' hT [r] [r] := by rw [hTe]; exact (f5.pushTmp _).setTmp (by omega) _
                  have gT : hT.get h5.n = .cells 0 false [.int .i64 pa, .nils, .nils, .nils] := by rw [hTe]; exact AHeap.get_set_same _ _ _
                  have nT : hT.n = h5.n + 1 := by rw [hTe]; simp
                  have gTo : ∀ j, j < h5.n → hT.get j = h5.get j := fun j hj => by rw [hTe, AHeap.get_set_ne _ _ (by omega), AHeap.get_push_ne _ _ (by omega)]
                  have gTr : hT.get r = _ := (gTo r (by omega)).trans g5
                  rw [← hTe]
                  have HT := H'.next fT gTr hle5
                  have W := rkinds HT 32 (by omega)
                  cases hp3 : pkinds t 32 qa with
                  | bad e2 p2 =>
                    rw [hp3] at W hpt
                    refine AM.callXI_of W (fun _ _ q => by cases q.1) ?_
                    rintro x h2 ⟨hx, f2⟩
                    cases hx
                    simp -implicitDefEqProofs (disch := first | decide | assumption | omega | (simp -implicitDefEqProofs only [AM.RN]; first | done | omega) | fail) only [↓AM.RX, AM.tx_short, ↓AM.R0, AM.R1, AM.R2, Nat.reduceAdd, Nat.reduceLeDiff, Nat.reduceEqDiff, Int.reduceToNat, Nat.reduceLT, ↓reduceIte, Int.reduceEq, Int.reduceLT, Int.reduceLE]
                    subst hQ
                    rw [plist_bad heq2 hpt]
                    exact ⟨rfl, (fh.trans fT).trans f2⟩
                  | ok ks q3 =>
                    rw [hp3] at W hpt
                    refine AM.callXI_of W ?_ (fun _ _ q => by obtain ⟨_, q, _⟩ := q; cases q)
                    rintro sv h6 ⟨x', hx, f6, g6, hle6, hks, hkl⟩
                    cases hx
                    rw [PR.ok_bind] at hpt
                    have n6 : h5.n < h6.n := by have := f6.n; omega
                    have g6T := kp f6 gT (by omega) (by omega)
                    have hksM := hks (h5.n :: M) (fun j hj => by
                      rcases List.mem_cons.1 hj with e | e
                      · omega
                      · have := hM j e; omega)
                    obtain ⟨d1, d2⟩ := hksM.cells
                    simp -implicitDefEqProofs (disch := first | decide | assumption | omega | (simp -implicitDefEqProofs only [AM.RN]; first | done | omega) | fail) only [↓AM.RX, AM.tx_short, ↓AM.R0, AM.R1, AM.R2, Nat.reduceAdd, Nat.reduceLeDiff, Nat.reduceEqDiff, Int.reduceToNat, Nat.reduceLT, ↓reduceIte, Int.reduceEq, Int.reduceLT, Int.reduceLE, e0, e2, e3, e28, e29, g6T, d1, d2]
                    have f6' : HFrame h' (h6.set h5.n (.cells 0 false [.int .i64 pa, sv, .nils, .nils])) [r] [r] := (fT.trans f6).setTmp (by omega) _
                    obtain ⟨h7, h7e⟩ : ∃ h7, h7 = h6.set h5.n (.cells 0 false [.int .i64 pa, sv, .nils, .nils]) := ⟨_, rfl⟩
                    have g7 : h7.get h5.n = .cells 0 false [.int .i64 pa, sv, .nils, .nils] := by rw [h7e]; exact AHeap.get_set_same _ _ _
                    have g7r : h7.get r = .cells 0 false [v, .int .i64 q3] := by rw [h7e, AHeap.get_set_ne _ _ (by omega)]; exact g6
                    have n7 : h7.n = h6.n := by rw [h7e]; rfl
                    have ks7 : SlRd (h7.masks (h5.n :: M)) 1 encK sv (asK ks) := by
                      have mt := masks_step (h := h6) (h' := h7) (N := []) (M := h5.n :: M) (by omega) (fun j hj hm => by rw [h7e]; exact AHeap.get_set_ne _ _ (by intro e; subst e; simp at hm)) (by simp)
                      exact SlRd.mono' mt.1 mt.2 hksM
                    rw [← h7e] at f6' ⊢
                    have H7 := H'.next f6' g7r hle6
                    have W := rkinds H7 32 (by omega)
                    cases hp4 : pkinds t 32 q3 with
                    | bad e2 p2 =>
                      rw [hp4] at W hpt
                      refine AM.callXI_of W (fun _ _ q => by cases q.1) ?_
                      rintro x h2 ⟨hx, f2⟩
                      cases hx
                      simp -implicitDefEqProofs (disch := first | decide | assumption | omega | (simp -implicitDefEqProofs only [AM.RN]; first | done | omega) | fail) only [↓AM.RX, AM.tx_short, ↓AM.R0, AM.R1, AM.R2, Nat.reduceAdd, Nat.reduceLeDiff, Nat.reduceEqDiff, Int.reduceToNat, Nat.reduceLT, ↓reduceIte, Int.reduceEq, Int.reduceLT, Int.reduceLE]
                      subst hQ
                      rw [plist_bad heq2 hpt]
                      exact ⟨rfl, (fh.trans f6').trans f2⟩
                    | ok rs q4 =>
                      rw [hp4] at W hpt
                      refine AM.callXI_of W ?_ (fun _ _ q => by obtain ⟨_, q, _⟩ := q; cases q)
                      rintro rv h8 ⟨x', hx, f8, g8, hle8, hrs, hrl⟩
                      cases hx
                      rw [PR.ok_bind] at hpt
                      have n8 : h5.n < h8.n := by have := f8.n; omega
                      have g8T := kp f8 g7 (by omega) (by omega)
                      have hrsM := hrs (h5.n :: M) (fun j hj => by
                        rcases List.mem_cons.1 hj with e | e
                        · omega
                        · have := hM j e; omega)
                      obtain ⟨d3, d4⟩ := hrsM.cells
                      simp -implicitDefEqProofs (disch := first | decide | assumption | omega | (simp -implicitDefEqProofs only [AM.RN]; first | done | omega) | fail) only [↓AM.RX, AM.tx_short, ↓AM.R0, AM.R1, AM.R2, Nat.reduceAdd, Nat.reduceLeDiff, Nat.reduceEqDiff, Int.reduceToNat, Nat.reduceLT, ↓reduceIte, Int.reduceEq, Int.reduceLT, Int.reduceLE, e0, e2, e3, e28, e29, g8T, d3, d4]
                      have f8' : HFrame h' (h8.set h5.n (.cells 0 false [.int .i64 pa, sv, rv, .nils])) [r] [r] := (f6'.trans f8).setTmp (by omega) _
                      obtain ⟨h9, h9e⟩ : ∃ h9, h9 = h8.set h5.n (.cells 0 false [.int .i64 pa, sv, rv, .nils]) := ⟨_, rfl⟩
                      have g9 : h9.get h5.n = .cells 0 false [.int .i64 pa, sv, rv, .nils] := by rw [h9e]; exact AHeap.get_set_same _ _ _
                      have g9r : h9.get r = .cells 0 false [v, .int .i64 q4] := by rw [h9e, AHeap.get_set_ne _ _ (by omega)]; exact g8
                      have n9 : h9.n = h8.n := by rw [h9e]; rfl
                      have mt := masks_step (h := h8) (h' := h9) (N := []) (M := h5.n :: M) (by omega) (fun j hj hm => by rw [h9e]; exact AHeap.get_set_ne _ _ (by intro e; subst e; simp at hm)) (by simp)
                      have rs9 : SlRd (h9.masks (h5.n :: M)) 1 encK rv (asK rs) := SlRd.mono' mt.1 mt.2 hrsM
                      have mt2 := masks_step (h := h7) (h' := h9) (N := []) (M := h5.n :: M) (by have := f8.n; omega) (fun j hj hm => by
                        rw [h9e, AHeap.get_set_ne _ _ (by intro e; subst e; simp at hm)]
                        exact f8.get j hj (by simp only [List.mem_cons, List.not_mem_nil, or_false]; intro e; subst e; exact hm (List.mem_cons_of_mem _ (hFM _ (by simp [hKr, hK1, hK0]))))) (by simp)
                      have ks9 : SlRd (h9.masks (h5.n :: M)) 1 encK sv (asK ks) := SlRd.mono' mt2.1 mt2.2 ks7
                      clear mt mt2 hrsM ks7 hksM hrs hks
                      rw [← h9e] at f8' ⊢
                      have H9 := H'.next f8' g9r hle8
                      have W := rnum H9 256 16 (by omega)
                      cases hp5 : pnum t 256 16 q4 with
                      | bad e2 p2 =>
                        rw [hp5] at W hpt
                        refine AM.callXI_of W (fun _ _ q => by cases q.1) ?_
                        rintro x h2 ⟨hx, f2⟩
                        cases hx
                        simp -implicitDefEqProofs (disch := first | decide | assumption | omega | (simp -implicitDefEqProofs only [AM.RN]; first | done | omega) | fail) only [↓AM.RX, AM.tx_short, ↓AM.R0, AM.R1, AM.R2, Nat.reduceAdd, Nat.reduceLeDiff, Nat.reduceEqDiff, Int.reduceToNat, Nat.reduceLT, ↓reduceIte, Int.reduceEq, Int.reduceLT, Int.reduceLE]
                        subst hQ
                        rw [plist_bad heq2 hpt]
                        exact ⟨rfl, (fh.trans f8').trans f2⟩
                      | ok nc p5 =>
                        rw [hp5] at W hpt
                        refine AM.callXI_of W ?_ (fun _ _ q => by obtain ⟨_, q, _⟩ := q; cases q)
                        rintro x hc ⟨x', hx, fc, gc, hlec, rfl, hmc⟩
                        cases hx
                        rw [PR.ok_bind] at hpt
                        have gcT := kp fc g9 (by omega) (by omega)
                        have nc9 := fc.n
                        have fc' := f8'.trans fc
                        have mt := masks_step (h := h9) (h' := hc) (N := []) (M := h5.n :: M) fc.n (fun j hj hm => fc.get j hj (by simp only [List.mem_cons, List.not_mem_nil, or_false]; intro e; subst e; exact hm (List.mem_cons_of_mem _ (hFM _ (by simp [hKr, hK1, hK0]))))) (by simp)
                        have rsC : SlRd (hc.masks (h5.n :: M)) 1 encK rv (asK rs) := SlRd.mono' mt.1 mt.2 rs9
                        have ksC : SlRd (hc.masks (h5.n :: M)) 1 encK sv (asK ks) := SlRd.mono' mt.1 mt.2 ks9
                        clear rs9 ks9 mt
                        simp -implicitDefEqProofs (disch := first | decide | assumption | omega | (simp -implicitDefEqProofs only [AM.RN]; first | done | omega) | fail) only [↓AM.RX, AM.tx_short, ↓AM.R0, AM.R1, AM.R2, Nat.reduceAdd, Nat.reduceLeDiff, Nat.reduceEqDiff, Int.reduceToNat, Nat.reduceLT, ↓reduceIte, Int.reduceEq, Int.reduceLT, Int.reduceLE, e0, e2, e3, e28, e29]
                        have fcc : HFrame hc hc [r, h5.n] [r, h5.n] := HFrame.refl (fun j hj => by simp only [List.mem_cons, List.not_mem_nil, or_false] at hj; omega)
                        refine AM.loopX_of (fun k2 e h10 => ∃ (l3 : List PIns) (q : Nat) (cv : AVal) (F2 M2 : List Nat), k2 + l3.length = nc ∧ e.val 0 = .ptr r 0 0 ∧ e.val 2 = .ptr h.n 0 0 ∧ e.val 3 = .ptr (h.n + 1) 0 0 ∧ e.val 5 = .ptr h5.n 0 0 ∧ e.val 28 = .int .i64 m ∧ e.val 29 = .int .i64 l2.length ∧ e.val 41 = .int .i64 nc ∧ e.val 42 = .int .i64 l3.length ∧
                          h10.get h5.n = .cells 0 false [.int .i64 pa, sv, rv, cv] ∧
                          RowsOf h10 6 (InsS (h10.masks M2)) cv l3 F2 ∧ (∀ j, j ∈ F2 → hc.n ≤ j) ∧ (∀ j, j ∈ (h5.n :: M) ++ F2 → j ∈ M2) ∧ (∀ j, j ∈ M2 → j < h10.n) ∧ HFrame hc h10 [r, h5.n] [r, h5.n] ∧ h10.get r = .cells 0 false [v, .int .i64 q] ∧ q ≤ t.length ∧
                          plist (pins t) nc p5 = (plist (pins t) k2 q).bind fun l2' p => .ok (l3 ++ l2') p) nc ?_ ?_
                        · have hF0 : ∀ j, j ∈ ([] : List Nat) → hc.n ≤ j := fun j hj => nomatch hj
                          have hFM0 : ∀ j, j ∈ (h5.n :: M) ++ ([] : List Nat) → j ∈ h5.n :: M := fun j hj => by simpa using hj
                          have hM0 : ∀ j, j ∈ h5.n :: M → j < hc.n := fun j hj => by
                            rcases List.mem_cons.1 hj with e | e
                            · omega
                            · have := hM j e; omega
                          refine ⟨[], p5, .nils, [], h5.n :: M, ?_⟩
                          simp -implicitDefEqProofs (disch := first | decide | assumption | omega | (simp -implicitDefEqProofs only [AM.RN]; first | done | omega) | fail) only [↓AM.RX, AM.tx_short, ↓AM.R0, AM.R1, AM.R2, Nat.reduceAdd, Nat.reduceLeDiff, Nat.reduceEqDiff, Int.reduceToNat, Nat.reduceLT, ↓reduceIte, Int.reduceEq, Int.reduceLT, Int.reduceLE, e0, e2, e3, e28, e29]
                          and_intros <;> first | omega | exact (fun j hj => hj) | exact fcc | exact hlec | exact rfl | exact gcT | exact gc | exact (fun j hj => hj) | exact RowsOf.nil | exact hF0 | exact hFM0 | exact hM0 | exact plist_start _ _ _
                        · clear gcT gc f8' g9r g9 HT H7 H9 f8 g8 fc f6 g6 f6' f5 g5 hle8 hlec hle6 hle5 W g8T g7 g7r gT gTr gTo fcc e0 e2 e3 e28 e29 e
                          rintro k2 e h10 ⟨l3, q5, cv, F2, M2, hk2, e0, e2, e3, e5, e28, e29, e41, e42, gT, hs2, hF2, hFM2, hM2, fX, gX, hqX, heqX⟩
                          have fhX : HFrame h' h10 [r] [r] := frG (P := 0) fc' fX (fun j hj => by simp only [List.mem_cons, List.not_mem_nil, or_false] at hj; omega)
                          have HX := H'.next fhX gX hqX
                          have nX := fX.n
                          have nc5 := fc'.n
                          have hrF2 : r ∉ F2 := fun hm => by have := hF2 r hm; omega
                          have hTF2 : h5.n ∉ F2 := fun hm => by have := hF2 _ hm; omega
                          have bo := hs2.beq
                          simp -implicitDefEqProofs (disch := first | decide | assumption | omega | (simp -implicitDefEqProofs only [AM.RN]; first | done | omega) | fail) only [↓AM.RX, AM.tx_short, ↓AM.R0, AM.R1, AM.R2, Nat.reduceAdd, Nat.reduceLeDiff, Nat.reduceEqDiff, Int.reduceToNat, Nat.reduceLT, ↓reduceIte, Int.reduceEq, Int.reduceLT, Int.reduceLE, e0, e2, e3, e5, e28, e29, e41, e42]
                          refine AM.cX_bool (fun hb2 => ?_) (fun hb2 => ?_)
                          · simp only [decide_eq_true_eq] at hb2
                            obtain ⟨k2, rfl⟩ : ∃ m, k2 = m + 1 := ⟨k2 - 1, by omega⟩
                            have hw2 : IntKind.i64.wrap ((l3.length : Int) + 1) = ((l3.length + 1 : Nat) : Int) := wrap64 (by omega) (by omega)
                            simp -implicitDefEqProofs (disch := first | decide | assumption | omega | (simp -implicitDefEqProofs only [AM.RN]; first | done | omega) | fail) only [↓AM.RX, AM.tx_short, ↓AM.R0, AM.R1, AM.R2, Nat.reduceAdd, Nat.reduceLeDiff, Nat.reduceEqDiff, Int.reduceToNat, Nat.reduceLT, ↓reduceIte, Int.reduceEq, Int.reduceLT, Int.reduceLE, e0, e2, e3, e5, e28, e29, e41, e42, gT]
                            have W := rins HX
                            cases hp6 : pins t q5 with
                            | bad e2 p2 =>
                              rw [hp6] at W
                              refine AM.txCall_of W (fun _ _ q => by cases q.1) ?_
                              rintro x h2 ⟨hx, f2⟩
                              cases hx
                              have g2T := kp f2 gT (by omega) (by omega)
                              have n2 : h5.n < h2.n := by have := f2.n; omega
                              refine ⟨rfl, ?_, ?_⟩
                              · simp -implicitDefEqProofs (disch := first | decide | assumption | omega | (simp -implicitDefEqProofs only [AM.RN]; first | done | omega) | fail) only [↓AM.RX, AM.tx_short, ↓AM.R0, AM.R1, AM.R2, Nat.reduceAdd, Nat.reduceLeDiff, Nat.reduceEqDiff, Int.reduceToNat, Nat.reduceLT, ↓reduceIte, Int.reduceEq, Int.reduceLT, Int.reduceLE, g2T, bo]
                              · simp -implicitDefEqProofs (disch := first | decide | assumption | omega | (simp -implicitDefEqProofs only [AM.RN]; first | done | omega) | fail) only [↓AM.RX, AM.tx_short, ↓AM.R0, AM.R1, AM.R2, Nat.reduceAdd, Nat.reduceLeDiff, Nat.reduceEqDiff, Int.reduceToNat, Nat.reduceLT, ↓reduceIte, Int.reduceEq, Int.reduceLT, Int.reduceLE]
                                subst hQ
                                rw [plist_bad heqX hp6, PR.bad_bind] at hpt
                                rw [plist_bad heq2 hpt]
                                exact ⟨rfl, (fh.trans fhX).trans f2⟩
                            | ok ii q6 =>
                              rw [hp6] at W
                              refine AM.txCall_of W ?_ (fun _ _ q => by obtain ⟨_, q, _⟩ := q; cases q)
                              rintro x h11 ⟨x', hx, f11, g11, hle11, row, rfl, hrl1, hrl2, hrow, hil⟩
                              cases hx
                              have g11T := kp f11 gT (by omega) (by omega)
                              have n11 : h5.n < h11.n := by have := f11.n; omega
                              simp -implicitDefEqProofs (disch := first | decide | assumption | omega | (simp -implicitDefEqProofs only [AM.RN]; first | done | omega) | fail) only [↓AM.RX, AM.tx_short, ↓AM.R0, AM.R1, AM.R2, Nat.reduceAdd, Nat.reduceLeDiff, Nat.reduceEqDiff, Int.reduceToNat, Nat.reduceLT, ↓reduceIte, Int.reduceEq, Int.reduceLT, Int.reduceLE, e0, e2, e3, e5, e28, e29, e41, e42, hrl1, hrl2]
                              have ma := masks_step (h := h10) (h' := h11) (N := []) (M := M2) f11.n (fun j hj hm => f11.get j hj (by simp only [List.mem_cons, List.not_mem_nil, or_false]; intro e; subst e; exact hm (hFM2 _ (by simp [hFM j, hKr])))) (by simp)
                              have hs11 := (hs2.frame (h' := h11) f11.n fun j hj => f11.get j (hs2.lt j hj) (by simp; intro e; exact hrF2 (e ▸ hj))).monoR (fun a row q => InsS.mono ma.1 ma.2 q)
                              refine AM.txOp_of (hs11.app1 (a := ii) (by omega) hrl1 hrl2 (hrow M2 hM2) fun v' h12 F12 s12 f12 => ?_)
                              have n12 : h5.n < h12.n := by have := f12.n; omega
                              have g12T : h12.get h5.n = _ := (f12.get _ n11 hTF2).trans g11T
                              have g12r : h12.get r = _ := (f12.get _ (by omega) hrF2).trans g11
                              obtain ⟨e1', e2'⟩ := s12.cells
                              simp -implicitDefEqProofs (disch := first | decide | assumption | omega | (simp -implicitDefEqProofs only [AM.RN]; first | done | omega) | fail) only [↓AM.RX, AM.tx_short, ↓AM.R0, AM.R1, AM.R2, Nat.reduceAdd, Nat.reduceLeDiff, Nat.reduceEqDiff, Int.reduceToNat, Nat.reduceLT, ↓reduceIte, Int.reduceEq, Int.reduceLT, Int.reduceLE, e0, e2, e3, e5, e28, e29, e41, e42, g12T, g11T, gT, bo, e1', e2', hw2]
                              obtain ⟨f112, hF12⟩ := tmpF (n := hc.n) (frW fX f11 (by simp)) f12 (by omega) (by have := f11.n; omega) hF2
                              have f113 := frS f112 (i := h5.n) (by simp) (.cells 0 false [.int .i64 pa, sv, rv, v'])
                              have mu := masks_step (h := h11) (h' := h12.set h5.n (.cells 0 false [.int .i64 pa, sv, rv, v'])) (N := F12) (M := M2) (by simpa using f12.n)
                                (fun j hj hm => by
                                  rw [AHeap.get_set_ne _ _ (by intro e; subst e; exact hm (hFM2 _ (by simp)))]
                                  exact f12.get j hj fun hq => hm (hFM2 j (List.mem_append_right _ hq)))
                                (fun j hj => by
                                  rcases f12.new j hj with e | e
                                  · exact .inl (hFM2 j (List.mem_append_right _ e))
                                  · exact .inr e)
                              have s13 : RowsOf (h12.set h5.n (.cells 0 false [.int .i64 pa, sv, rv, v'])) 6 (InsS ((h12.set h5.n (.cells 0 false [.int .i64 pa, sv, rv, v'])).masks (F12 ++ M2))) v' (l3 ++ [ii]) F12 :=
                                (s12.set (fun hm => by have := hF12 _ hm; omega) _).monoR (fun a row q => InsS.mono mu.1 mu.2 q)
                              have hFM' : ∀ j, j ∈ (h5.n :: M) ++ F12 → j ∈ F12 ++ M2 := fun j hj => by
                                rcases List.mem_append.1 hj with e | e
                                · exact List.mem_append_right _ (hFM2 j (List.mem_append_left _ e))
                                · exact List.mem_append_left _ e
                              have hM' : ∀ j, j ∈ F12 ++ M2 → j < h12.n := fun j hj => by
                                rcases List.mem_append.1 hj with e | e
                                · exact s12.lt j e
                                · have h1 := hM2 j e; have h2 := f11.n; have h3 := f12.n; omega
                              have heq3 := plist_step heqX hp6
                              refine ⟨k2, by omega, l3 ++ [ii], q6, v', F12, F12 ++ M2, ?_⟩
                              rw [List.length_append, List.length_cons, List.length_nil]
                              and_intros <;> first | omega | exact s13 | exact hF12 | exact hFM' | exact hM' | exact f113 | exact g12r | exact heq3 | rfl
                          · simp only [decide_eq_false_iff_not] at hb2
                            have hk0 : k2 = 0 := by omega
                            subst hk0
                            rw [plist_done heqX, PR.ok_bind] at hpt
                            have gXI : h10.get (h.n + 1) = .cells 0 false [lv, gv, fv] := (fhX.get _ (by omega) (by simp; omega)).trans gI
                            have gX0 : h10.get h.n = .cells 0 false [.nils, .nils, .nils] := (fhX.get _ (by omega) (by simp; omega)).trans g0
                            obtain ⟨c3, c4⟩ := hs2.cells
                            have hMlt : ∀ j, j ∈ h5.n :: M → j < hc.n := fun j hj => by
                              rcases List.mem_cons.1 hj with e | e
                              · omega
                              · have := hM j e; omega
                            have mz := masks_step (h := hc) (h' := h10) (N := []) (M := h5.n :: M) fX.n (fun j hj hm => fX.get j hj (by
                              simp only [List.mem_cons, List.not_mem_nil, or_false]
                              rintro (e | e)
                              · subst e; exact hm (List.mem_cons_of_mem _ (hFM _ (by simp [hKr, hK1, hK0])))
                              · subst e; exact hm (by simp))) (by simp)
                            have hrow : FuncS (h10.masks (h5.n :: M)) ⟨pa, asK ks, asK rs, l3⟩ [.int .i64 pa, sv, rv, cv] :=
                              ⟨sv, rv, cv, rfl, SlRd.mono' mz.1 mz.2 ksC, SlRd.mono' mz.1 mz.2 rsC, ((hs2.masks (M := h5.n :: M) fun j hj hm => by
                                have h1 := hF2 j hj; have h2 := hMlt j hm; omega).monoR fun a row q => InsS.sub (fun j hj => hFM2 j (List.mem_append_left _ hj)) q).row⟩
                            have ms := masks_step (h := h') (h' := h10) (N := [h5.n]) (M := M) fhX.n (fun j hj hm => fhX.get j hj (by simp only [List.mem_cons, List.not_mem_nil, or_false]; intro e; subst e; exact hm (hFM _ (by simp [hKr, hK1, hK0])))) (by simp; omega)
                            have hsX := (hs.frame (h' := h10) fhX.n fun j hj => fhX.get j (hs.lt j hj) (by simp; intro e; exact hrF (e ▸ hj))).monoR (fun a row q => FuncS.mono ms.1 ms.2 q)
                            simp -implicitDefEqProofs (disch := first | decide | assumption | omega | (simp -implicitDefEqProofs only [AM.RN]; first | done | omega) | fail) only [↓AM.RX, AM.tx_short, ↓AM.R0, AM.R1, AM.R2, Nat.reduceAdd, Nat.reduceLeDiff, Nat.reduceEqDiff, Int.reduceToNat, Nat.reduceLT, ↓reduceIte, Int.reduceEq, Int.reduceLT, Int.reduceLE, e0, e2, e3, e5, e28, e29, gXI, gT, d2, d4, c4]
                            refine AM.opX_of (hsX.app1 (a := ⟨pa, asK ks, asK rs, l3⟩) (by omega) rfl (by simp only [List.all_cons, AM.cell_int, d2, d4, c4, List.all_nil, Bool.and_self]) hrow fun v' h12 F12 s12 f12 => ?_)
                            have nh := fhX.n
                            have n12 : h10.n ≤ h12.n := f12.n
                            have g12I : h12.get (h.n + 1) = _ := (f12.get _ (by omega) hIF).trans gXI
                            have g120 : h12.get h.n = _ := (f12.get _ (by omega) h0F).trans gX0
                            have g12r : h12.get r = _ := (f12.get _ (by omega) hrF).trans gX
                            obtain ⟨e1', e2'⟩ := s12.cells
                            simp -implicitDefEqProofs (disch := first | decide | assumption | omega | (simp -implicitDefEqProofs only [AM.RN]; first | done | omega) | fail) only [↓AM.RX, AM.tx_short, ↓AM.R0, AM.R1, AM.R2, Nat.reduceAdd, Nat.reduceLeDiff, Nat.reduceEqDiff, Int.reduceToNat, Nat.reduceLT, ↓reduceIte, Int.reduceEq, Int.reduceLT, Int.reduceLE, e0, e2, e3, e28, e29, g12I, e1', e2', hw]
                            obtain ⟨f112, hF12⟩ := tmpF (n := hG.n) (frW f fhX (by simp)) f12 (by omega) (by omega) hF
                            have f113 := frS f112 (i := h.n + 1) (by simp) (.cells 0 false [lv, gv, v'])
                            have mu := masks_step (h := h10) (h' := h12.set (h.n + 1) (.cells 0 false [lv, gv, v'])) (N := F12) (M := [h5.n] ++ M) (by simpa using f12.n)
                              (fun j hj hm => by
                                rw [AHeap.get_set_ne _ _ (by intro e; subst e; exact hm (List.mem_append_right _ (hFM _ (by simp [hKr, hK1, hK0]))))]
                                exact f12.get j hj fun hq => hm (List.mem_append_right _ (hFM j (by simp [hq]))))
                              (fun j hj => by
                                rcases f12.new j hj with e | e
                                · exact .inl (List.mem_append_right _ (hFM j (by simp [e])))
                                · exact .inr e)
                            have s13 : RowsOf (h12.set (h.n + 1) (.cells 0 false [lv, gv, v'])) 4 (FuncS ((h12.set (h.n + 1) (.cells 0 false [lv, gv, v'])).masks (F12 ++ ([h5.n] ++ M)))) v' (l2 ++ [⟨pa, asK ks, asK rs, l3⟩]) F12 :=
                              (s12.set (fun hm => by have := hF12 _ hm; omega) _).monoR (fun a row q => FuncS.mono mu.1 mu.2 q)
                            have hFM' : ∀ j, j ∈ K ++ F12 → j ∈ F12 ++ ([h5.n] ++ M) := fun j hj => by
                              rcases List.mem_append.1 hj with e | e
                              · exact List.mem_append_right _ (List.mem_append_right _ (hFM j (List.mem_append_left _ e)))
                              · exact List.mem_append_left _ e
                            have hM' : ∀ j, j ∈ F12 ++ ([h5.n] ++ M) → j < h12.n := fun j hj => by
                              simp only [List.mem_cons, List.mem_append, List.not_mem_nil, or_false] at hj
                              rcases hj with e | e | e
                              · exact s12.lt j e
                              · omega
                              · have := hM j e; omega
                            have heq3 := plist_step heq2 hpt
                            refine ⟨k, by omega, l2 ++ [⟨pa, asK ks, asK rs, l3⟩], q5, v', F12, F12 ++ ([h5.n] ++ M), ?_⟩
                            rw [List.length_append, List.length_cons, List.length_nil]
                            and_intros <;> first | omega | exact g120 | exact s13 | exact hF12 | exact hFM' | exact hM' | exact f113 | exact g12r | exact heq3 | rfl
              · simp only [decide_eq_false_iff_not] at hb
                have hk0 : k = 0 := by omega
                subst hk0
                rw [plist_done heq2, PR.ok_bind] at hQ
                have hlen := H'.txt.len
                obtain ⟨c3, c4⟩ := hs.cells
                simp -implicitDefEqProofs (disch := first | decide | assumption | omega | (simp -implicitDefEqProofs only [AM.RN]; first | done | omega) | fail) only [↓AM.RX, AM.tx_short, ↓AM.R0, AM.R1, AM.R2, Nat.reduceAdd, Nat.reduceLeDiff, Nat.reduceEqDiff, Int.reduceToNat, Nat.reduceLT, ↓reduceIte, Int.reduceEq, Int.reduceLT, Int.reduceLE, e0, e2, e3, g, hlen]
                refine AM.cX_bool (fun hd => ?_) (fun hd => ?_)
                · simp only [decide_eq_true_eq] at hd
                  simp -implicitDefEqProofs (disch := first | decide | assumption | omega | (simp -implicitDefEqProofs only [AM.RN]; first | done | omega) | fail) only [↓AM.RX, AM.tx_short, ↓AM.R0, AM.R1, AM.R2, Nat.reduceAdd, Nat.reduceLeDiff, Nat.reduceEqDiff, Int.reduceToNat, Nat.reduceLT, ↓reduceIte, Int.reduceEq, Int.reduceLT, Int.reduceLE, e0, g]
                  refine AM.callXI_of (failX _ 7 q) (fun _ _ q => by cases q.1) ?_
                  rintro x h3 ⟨hx, rfl⟩
                  cases hx
                  simp -implicitDefEqProofs (disch := first | decide | assumption | omega | (simp -implicitDefEqProofs only [AM.RN]; first | done | omega) | fail) only [↓AM.RX, AM.tx_short, ↓AM.R0, AM.R1, AM.R2, Nat.reduceAdd, Nat.reduceLeDiff, Nat.reduceEqDiff, Int.reduceToNat, Nat.reduceLT, ↓reduceIte, Int.reduceEq, Int.reduceLT, Int.reduceLE]
                  subst hQ
                  rw [if_pos (by omega)]
                  exact ⟨rfl, fh⟩
                · simp only [decide_eq_false_iff_not] at hd
                  simp -implicitDefEqProofs (disch := first | decide | assumption | omega | (simp -implicitDefEqProofs only [AM.RN]; first | done | omega) | fail) only [↓AM.RX, AM.tx_short, ↓AM.R0, AM.R1, AM.R2, Nat.reduceAdd, Nat.reduceLeDiff, Nat.reduceEqDiff, Int.reduceToNat, Nat.reduceLT, ↓reduceIte, Int.reduceEq, Int.reduceLT, Int.reduceLE, e0, e2, e3, gI, g0, c2, c4, d2]
                  subst hQ
                  rw [if_neg (by omega)]
                  have m1 := masks_step (h := hG) (h' := h'.set h.n (.cells 0 false [lv, gv, fv])) (N := []) (M := K) (by simpa using f.n) (fun j hj hm => by
                    rw [AHeap.get_set_ne _ _ (by intro e; rw [e] at hm; exact hm hK0)]; exact f.get j hj (by simp only [List.mem_cons, List.not_mem_nil, or_false]; rintro (e | e) <;> exact hm (by simp [e, hKr, hK1]))) (by simp)
                  have m2 := masks_step (h := h') (h' := h'.set h.n (.cells 0 false [lv, gv, fv])) (N := []) (M := M) (by simp) (fun j hj hm => by
                    rw [AHeap.get_set_ne _ _ (by intro e; subst e; exact hm (hFM _ (by simp [hKr, hK1, hK0])))]) (by simp)
                  refine ⟨_, rfl, fh.setTmp (by omega) _, ?_, hq, [lv, gv, fv], rfl, rfl, by simp only [List.all_cons, c2, c4, d2, List.all_nil, Bool.and_self], lv, gv, fv, rfl, ?_, ?_, ?_⟩
                  · rw [AHeap.get_set_ne _ _ (by omega)]; exact g
                  · exact SlRow.subm hKM (SlRow.monoR (hTG.mono (fun a row q => q) m1.1 m1.2) fun a row q => TypeS.sub hKM (TypeS.mono m1.1 m1.2 q))
                  · exact masks_sub hKM (SlRd.mono' m1.1 m1.2 hGG)
                  · exact (((hs.set h0F _).masks fun j hj hm => by have h1 := hF j hj; have h2 := hM00 j hm; omega).monoR fun a row q => FuncS.sub (fun j hj => hFM j (List.mem_append_left _ (hKM j hj))) (FuncS.mono m2.1 m2.2 q)).row
end Go.Proofs.Ytfagngiceofoeaa.Cd

namespace Go.Proofs.Ytfagngiceofoeaa.Cd
open Go Go.AM Go.Proofs.Ytfagngiceofoeaa.AmGC
attribute [local irreducible] AM.wp AM.wpIs AM.wpTr AM.opI AM.gI AM.cI AM.trI AM.callI AM.fnI AM.trG AM.trOp AM.trCall AM.seqC AM.loopI AM.wx AM.wxIs AM.wxTr AM.opX AM.gX AM.cX AM.callXI AM.fnX AM.panX AM.loopX AM.seqX AM.txI AM.txOp AM.txG AM.txFn AM.txCall
set_option maxRecDepth 100000
set_option linter.unusedVariables false
set_option linter.unusedSimpArgs false

def pdec (t : List Int) : PR PProg := if 16384 < t.length then .bad 2 0 else pprog t
def PR.prog : PR PProg → PProg
  | .ok p _ => p
  | .bad _ _ => ⟨[], [], []⟩
def PR.err {α : Type} : PR α → Int
  | .ok _ _ => 0
  | .bad e _ => e
def PR.fn {α : Type} : PR α → Int
  | .ok _ _ => 0
  | .bad _ _ => -1
def PR.pl {α : Type} : PR α → Nat
  | .ok _ _ => 0
  | .bad _ n => n

theorem lateNone (h : AHeap) (a b : Nat) (ha : a < h.n) (hb : b < h.n) (Q : AHeap → Prop) (hq : Q h) : LateP AP 28 [.ptr a 0 0, .ptr b 0 0] none h Q := by
  refine lateP (rfl : Tr.get AP 28 = some A28) ?_
  generalize hQ : lateQ [] Q = X
  simp -implicitDefEqProofs (disch := first | decide | assumption | omega | (simp -implicitDefEqProofs only [AM.RN]; first | done | omega) | fail) only [↓AM.RX, AM.tx_short, ↓AM.R0, AM.R1, AM.R2, Nat.reduceAdd, Nat.reduceLeDiff, Nat.reduceEqDiff, Int.reduceToNat, Nat.reduceLT, ↓reduceIte, Int.reduceEq, Int.reduceLT, Int.reduceLE, Option.getD_none]
  subst hQ
  exact ⟨⟨.tup [], rfl⟩, hq⟩

theorem lateSome (h : AHeap) (a b : Nat) (ha : a < h.n) (hb : b < h.n) (hab : a ≠ b) (x1 x2 x3 y1 y2 y3 : AVal) (ga : h.get a = .cells 0 false [x1, x2, x3]) (gb : h.get b = .cells 0 false [y1, y2, y3]) (e : Int) (p : Nat) (Q : AHeap → Prop)
    (hq : ∀ h', HFrame h h' [a, b] [a, b] → h'.get a = .cells 0 false [.nils, .nils, .nils] → h'.get b = .cells 0 false [.int .i64 e, .int .i64 (-1), .int .i64 p] → Q h') : LateP AP 28 [.ptr a 0 0, .ptr b 0 0] (some (fltV e p)) h Q := by
  refine lateP (rfl : Tr.get AP 28 = some A28) ?_
  generalize hQ : lateQ [] Q = X
  unfold fltV
  simp -implicitDefEqProofs (disch := first | decide | assumption | omega | (simp -implicitDefEqProofs only [AM.RN]; first | done | omega) | fail) only [↓AM.RX, AM.tx_short, ↓AM.R0, AM.R1, AM.R2, Nat.reduceAdd, Nat.reduceLeDiff, Nat.reduceEqDiff, Int.reduceToNat, Nat.reduceLT, ↓reduceIte, Int.reduceEq, Int.reduceLT, Int.reduceLE, Option.getD_some, ga, gb]
  subst hQ
  refine ⟨⟨.tup [], rfl⟩, hq _ ?_ ?_ ?_⟩
  · have f0 := HFrame.refl (h := h) (F := [a, b]) (by simp [ha, hb])
    exact frS (frS ((f0.pushTmp _).setTmp (Nat.le_refl _) _) (by simp) _) (by simp) _
  · rw [AHeap.get_set_ne _ _ hab]; exact AHeap.get_set_same _ _ _
  · exact AHeap.get_set_same _ _ _

theorem SlIn.cells {h : AHeap} {esz : Nat} {α : Type} {enc : α → List AVal} {v : AVal} {l : List α} (s : SlIn h esz enc v l) : v.cells = [v] ∧ v.cell = true := by
  rcases s with s | ⟨_, _, _, rfl, _⟩
  · exact s.cells
  · exact ⟨rfl, rfl⟩
theorem ProgS.sub {h : AHeap} {M M2 : List Nat} (hs : ∀ j, j ∈ M2 → j ∈ M) {p : PProg} {row : List AVal} (r : ProgS (h.masks M) p row) : ProgS (h.masks M2) p row := by
  obtain ⟨a, b, c, e, s1, s2, s3⟩ := r
  exact ⟨a, b, c, e, SlRow.subm hs (SlRow.monoR s1 fun a row q => TypeS.sub hs q), masks_sub hs s2, SlRow.subm hs (SlRow.monoR s3 fun a row q => FuncS.sub hs q)⟩
theorem outX_two {e : Env} {h : AHeap} {t u : Nat} {Q : ARes → AHeap → Prop} {i j : Nat} {a b : List AVal} (hi : e.val t = .ptr i 0 0) (hj : e.val u = .ptr j 0 0) (gi : h.get i = .cells 0 false a) (gj : h.get j = .cells 0 false b) (li : i < h.n) (lj : j < h.n) (la : a.length = 3) (lb : b.length = 3)
    (hq : Q (.ret (.tup [.agg a, .agg b])) h) : outX ⟨e, h⟩ [.cell t (some 3), .cell u (some 3)] Q := by
  have l1 : aop e h (.load (some 3) (.tmp t)) = some (.agg a, h) := by
    rw [AM.a_load, AM.opd_tmp, hi, AM.ldV_some (h := h) (hid := li), gi, AM.ldN_cells (h := h) (hl := by omega)]
    simp [← la]
  have l2 : aop e h (.load (some 3) (.tmp u)) = some (.agg b, h) := by
    rw [AM.a_load, AM.opd_tmp, hj, AM.ldV_some (h := h) (hid := lj), gj, AM.ldN_cells (h := h) (hl := by omega)]
    simp [← lb]
  refine ⟨.tup [.agg a, .agg b], ?_, hq⟩
  simp only [resOf, resVals, resVal, l1, l2, Option.map_some, Option.bind_some]

theorem decode {h : AHeap} {v : AVal} {t : List Int} (L : SlIn h 1 encB v t) (hb : ∀ b, b ∈ t → 0 ≤ b ∧ b ≤ 255) (M0 : List Nat) (hM0 : ∀ j, j ∈ M0 → j < h.n) :
    CallP AP 14 [v] h fun res h' => HFrame h h' [] [] ∧ ∃ row, res = .tup [.agg row, .agg [.int .i64 (pdec t).err, .int .i64 (pdec t).fn, .int .i64 (pdec t).pl]] ∧ row.length = 3 ∧ row.all (·.cell) = true ∧ ProgS (h'.masks M0) (pdec t).prog row := by
  refine CallX.p (callLate (rfl : Tr.get AP 14 = some A14) ?_)
  generalize hQ : (fun (r : ARes) (h' : AHeap) => _) = Q
  have hl := L.len
  obtain ⟨hv1, hvc⟩ := SlIn.cells L
  have f0 := HFrame.refl (h := h) (F := []) (by simp)
  have f2 := (f0.pushTmp (.cells 0 false [.nils, .nils, .nils])).pushTmp (.cells 0 false [.int .i64 0, .int .i64 0, .int .i64 0])
  have emp : ∀ h' : AHeap, ProgS h' ⟨[], [], []⟩ [.nils, .nils, .nils] := fun h' => ⟨_, _, _, rfl, ⟨[], .inl ⟨rfl, rfl⟩, rfl, by simp⟩, .inl ⟨rfl, rfl⟩, ⟨[], .inl ⟨rfl, rfl⟩, rfl, by simp⟩⟩
  simp -implicitDefEqProofs (disch := first | decide | assumption | omega | (simp -implicitDefEqProofs only [AM.RN]; first | done | omega) | fail) only [↓AM.RX, AM.tx_short, ↓AM.R0, AM.R1, AM.R2, Nat.reduceAdd, Nat.reduceLeDiff, Nat.reduceEqDiff, Int.reduceToNat, Nat.reduceLT, ↓reduceIte, Int.reduceEq, Int.reduceLT, Int.reduceLE, hl]
  refine AM.cX_bool (fun hc => ?_) (fun hc => ?_)
  · simp only [decide_eq_true_eq] at hc
    simp -implicitDefEqProofs (disch := first | decide | assumption | omega | (simp -implicitDefEqProofs only [AM.RN]; first | done | omega) | fail) only [↓AM.RX, AM.tx_short, ↓AM.R0, AM.R1, AM.R2, Nat.reduceAdd, Nat.reduceLeDiff, Nat.reduceEqDiff, Int.reduceToNat, Nat.reduceLT, ↓reduceIte, Int.reduceEq, Int.reduceLT, Int.reduceLE]
    have hp : pdec t = .bad 2 0 := if_pos (by omega)
    refine outX_two (i := h.n) (j := h.n + 1) ?_ ?_ ((AHeap.get_set_ne _ _ (by omega)).trans (AHeap.get_set_same _ _ _)) (AHeap.get_set_same _ _ _) (by simp; omega) (by simp) rfl rfl ?_
    · simp -implicitDefEqProofs (disch := first | decide | assumption | omega | (simp -implicitDefEqProofs only [AM.RN]; first | done | omega) | fail) only [↓AM.RX, AM.tx_short, ↓AM.R0, AM.R1, AM.R2, Nat.reduceAdd, Nat.reduceLeDiff, Nat.reduceEqDiff, Int.reduceToNat, Nat.reduceLT, ↓reduceIte, Int.reduceEq, Int.reduceLT, Int.reduceLE]
    · simp -implicitDefEqProofs (disch := first | decide | assumption | omega | (simp -implicitDefEqProofs only [AM.RN]; first | done | omega) | fail) only [↓AM.RX, AM.tx_short, ↓AM.R0, AM.R1, AM.R2, Nat.reduceAdd, Nat.reduceLeDiff, Nat.reduceEqDiff, Int.reduceToNat, Nat.reduceLT, ↓reduceIte, Int.reduceEq, Int.reduceLT, Int.reduceLE]
    · subst hQ
      refine ⟨_, rfl, ((f2.setTmp (by omega) _).setTmp (by omega) _), [.nils, .nils, .nils], ?_⟩
      rw [hp]
      exact ⟨rfl, rfl, rfl, emp _⟩
  · simp only [decide_eq_false_iff_not] at hc
    simp -implicitDefEqProofs (disch := first | decide | assumption | omega | (simp -implicitDefEqProofs only [AM.RN]; first | done | omega) | fail) only [↓AM.RX, AM.tx_short, ↓AM.R0, AM.R1, AM.R2, Nat.reduceAdd, Nat.reduceLeDiff, Nat.reduceEqDiff, Int.reduceToNat, Nat.reduceLT, ↓reduceIte, Int.reduceEq, Int.reduceLT, Int.reduceLE]
    have hp : pdec t = pprog t := if_neg (by omega)
    refine ⟨28, [], [.ptr h.n 0 0, .ptr (h.n + 1) 0 0], by simp -implicitDefEqProofs (disch := first | decide | assumption | omega | (simp -implicitDefEqProofs only [AM.RN]; first | done | omega) | fail) only [↓AM.RX, AM.tx_short, ↓AM.R0, AM.R1, AM.R2, Nat.reduceAdd, Nat.reduceLeDiff, Nat.reduceEqDiff, Int.reduceToNat, Nat.reduceLT, ↓reduceIte, Int.reduceEq, Int.reduceLT, Int.reduceLE], ?_⟩
    simp -implicitDefEqProofs (disch := first | decide | assumption | omega | (simp -implicitDefEqProofs only [AM.RN]; first | done | omega) | fail) only [↓AM.RX, AM.tx_short, ↓AM.R0, AM.R1, AM.R2, Nat.reduceAdd, Nat.reduceLeDiff, Nat.reduceEqDiff, Int.reduceToNat, Nat.reduceLT, ↓reduceIte, Int.reduceEq, Int.reduceLT, Int.reduceLE, hv1, hvc]
    obtain ⟨hB, hBe⟩ : ∃ hB, hB = ((h.push (.cells 0 false [.nils, .nils, .nils])).push (.cells 0 false [.int .i64 0, .int .i64 0, .int .i64 0])).push (.cells 0 false [v, .int .i64 0]) := ⟨_, rfl⟩
    have nB : hB.n = h.n + 3 := by rw [hBe]; rfl
    have gBr : hB.get (h.n + 2) = .cells 0 false [v, .int .i64 (0 : Nat)] := by rw [hBe]; exact AHeap.get_push_same _ _
    have gB1 : hB.get (h.n + 1) = .cells 0 false [.int .i64 0, .int .i64 0, .int .i64 0] := by rw [hBe, AHeap.get_push_ne _ _ (by simp)]; exact AHeap.get_push_same _ _
    have gB0 : hB.get h.n = .cells 0 false [.nils, .nils, .nils] := by rw [hBe, AHeap.get_push_ne _ _ (by simp; omega), AHeap.get_push_ne _ _ (by simp)]; exact AHeap.get_push_same _ _
    have fB : HFrame h hB [] [] := by rw [hBe]; exact f2.pushTmp _
    rw [← hBe]
    have HB : RdOk hB (h.n + 2) v t 0 := ⟨gBr, by omega, L.mono (by rw [AHeap.n_masks]; exact fB.n) fun j hj => by rw [AHeap.get_masks, if_neg (by simp; omega)]; exact fB.get j hj (by simp), by omega, by omega, hb⟩
    have W := rprog HB (h.n :: (h.n + 1) :: M0) (fun j hj => by
      simp only [List.mem_cons] at hj
      rcases hj with e | e | e
      · omega
      · omega
      · have := hM0 j e; omega)
    have fx : ∀ {h' : AHeap} {A B : List Nat}, HFrame hB h' A B → (∀ j, j ∈ A → h.n ≤ j) → HFrame h h' [] [] := fun g hA => (tmpF (n := h.n) fB g (Nat.le_refl _) fB.n hA).1
    cases hpp : pprog t with
    | bad e p =>
      rw [hpp] at W hp
      refine AM.callXI_of W (fun _ _ q => by cases q.1) ?_
      rintro x h2 ⟨hx, fc⟩
      cases hx
      simp -implicitDefEqProofs (disch := first | decide | assumption | omega | (simp -implicitDefEqProofs only [AM.RN]; first | done | omega) | fail) only [↓AM.RX, AM.tx_short, ↓AM.R0, AM.R1, AM.R2, Nat.reduceAdd, Nat.reduceLeDiff, Nat.reduceEqDiff, Int.reduceToNat, Nat.reduceLT, ↓reduceIte, Int.reduceEq, Int.reduceLT, Int.reduceLE]
      have g1 := (fc.get (h.n + 1) (by omega) (by simp)).trans gB1
      have g0 := (fc.get h.n (by omega) (by simp)).trans gB0
      have n2 := fc.n
      refine lateSome h2 h.n (h.n + 1) (by omega) (by omega) (by omega) _ _ _ _ _ _ g0 g1 e p _ fun h3 f3 g3 g4 => ?_
      refine outX_two (i := h.n) (j := h.n + 1) ?_ ?_ g3 g4 (by have := f3.n; omega) (by have := f3.n; omega) rfl rfl ?_
      · simp -implicitDefEqProofs (disch := first | decide | assumption | omega | (simp -implicitDefEqProofs only [AM.RN]; first | done | omega) | fail) only [↓AM.RX, AM.tx_short, ↓AM.R0, AM.R1, AM.R2, Nat.reduceAdd, Nat.reduceLeDiff, Nat.reduceEqDiff, Int.reduceToNat, Nat.reduceLT, ↓reduceIte, Int.reduceEq, Int.reduceLT, Int.reduceLE]
      · simp -implicitDefEqProofs (disch := first | decide | assumption | omega | (simp -implicitDefEqProofs only [AM.RN]; first | done | omega) | fail) only [↓AM.RX, AM.tx_short, ↓AM.R0, AM.R1, AM.R2, Nat.reduceAdd, Nat.reduceLeDiff, Nat.reduceEqDiff, Int.reduceToNat, Nat.reduceLT, ↓reduceIte, Int.reduceEq, Int.reduceLT, Int.reduceLE]
      · subst hQ
        refine ⟨_, rfl, (tmpF (n := h.n) (fx fc (by simp)) f3 (Nat.le_refl _) (by omega) (by simp)).1, [.nils, .nils, .nils], ?_⟩
        rw [hp]
        exact ⟨rfl, rfl, rfl, emp _⟩
    | ok p q =>
      rw [hpp] at W hp
      refine AM.callXI_of W ?_ (fun _ _ q => by obtain ⟨_, q, _⟩ := q; cases q)
      rintro x h2 ⟨x', hx, fc, gc, hle, row, rfl, hr1, hr2, hrow⟩
      cases hx
      have g1 := (fc.get (h.n + 1) (by omega) (by simp)).trans gB1
      have g0 := (fc.get h.n (by omega) (by simp)).trans gB0
      have n2 := fc.n
      simp -implicitDefEqProofs (disch := first | decide | assumption | omega | (simp -implicitDefEqProofs only [AM.RN]; first | done | omega) | fail) only [↓AM.RX, AM.tx_short, ↓AM.R0, AM.R1, AM.R2, Nat.reduceAdd, Nat.reduceLeDiff, Nat.reduceEqDiff, Int.reduceToNat, Nat.reduceLT, ↓reduceIte, Int.reduceEq, Int.reduceLT, Int.reduceLE, hr1, hr2, g0, g1]
      have hrM : ProgS (((h2.set h.n (.cells 0 false row)).set (h.n + 1) (.cells 0 false [.int .i64 0, .int .i64 0, .int .i64 0])).masks M0) p row := by
        have m1 := masks_step (h := h2) (h' := (h2.set h.n (.cells 0 false row)).set (h.n + 1) (.cells 0 false [.int .i64 0, .int .i64 0, .int .i64 0])) (N := []) (M := h.n :: (h.n + 1) :: M0) (by simp) (fun j hj hm => by
          simp only [List.mem_cons, not_or] at hm
          rw [AHeap.get_set_ne _ _ hm.2.1, AHeap.get_set_ne _ _ hm.1]) (by simp)
        have := ProgS.mono m1.1 m1.2 hrow
        exact ProgS.sub (fun j hj => by simp [hj]) this
      refine lateNone _ h.n (h.n + 1) (by simp; omega) (by simp; omega) _ ?_
      refine outX_two (i := h.n) (j := h.n + 1) ?_ ?_ ((AHeap.get_set_ne _ _ (by omega)).trans (AHeap.get_set_same _ _ _)) (AHeap.get_set_same _ _ _) (by simp; omega) (by simp; omega) hr1 rfl ?_
      · simp -implicitDefEqProofs (disch := first | decide | assumption | omega | (simp -implicitDefEqProofs only [AM.RN]; first | done | omega) | fail) only [↓AM.RX, AM.tx_short, ↓AM.R0, AM.R1, AM.R2, Nat.reduceAdd, Nat.reduceLeDiff, Nat.reduceEqDiff, Int.reduceToNat, Nat.reduceLT, ↓reduceIte, Int.reduceEq, Int.reduceLT, Int.reduceLE]
      · simp -implicitDefEqProofs (disch := first | decide | assumption | omega | (simp -implicitDefEqProofs only [AM.RN]; first | done | omega) | fail) only [↓AM.RX, AM.tx_short, ↓AM.R0, AM.R1, AM.R2, Nat.reduceAdd, Nat.reduceLeDiff, Nat.reduceEqDiff, Int.reduceToNat, Nat.reduceLT, ↓reduceIte, Int.reduceEq, Int.reduceLT, Int.reduceLE]
      · subst hQ
        refine ⟨_, rfl, ((fx fc (by simp)).setTmp (by omega) _).setTmp (by omega) _, row, ?_⟩
        rw [hp]
        exact ⟨rfl, hr1, hr2, hrM⟩

/-- The bytes are those of numbers. -/
theorem pdec_of {t : List Int} (h : t.length ≤ 16384) : pdec t = pprog t := if_neg (by omega)
end Go.Proofs.Ytfagngiceofoeaa.Cd

namespace Go.Proofs.Ytfagngiceofoeaa.Cd
open Go Go.AM Go.Proofs.Ytfagngiceofoeaa.AmGC
attribute [local irreducible] AM.wp AM.wpIs AM.wpTr AM.opI AM.gI AM.cI AM.trI AM.callI AM.fnI AM.trG AM.trOp AM.trCall AM.seqC AM.loopI
set_option maxRecDepth 100000
set_option linter.unusedVariables false
set_option linter.unusedSimpArgs false

/-! The document's reader: it goes on behind a fault, and reads nothing. -/
def RfSt (h : AHeap) (r : Nat) (v : AVal) (L : Nat) : PR Unit → Prop
  | .ok _ p => h.get r = .cells 0 false [v, .int .i64 p, .int .i64 0, .int .i64 0] ∧ p ≤ L
  | .bad e q => e ≠ 0 ∧ ∃ p : Nat, h.get r = .cells 0 false [v, .int .i64 p, .int .i64 e, .int .i64 q] ∧ p ≤ L
structure RfOk (h : AHeap) (r : Nat) (v : AVal) (t : List Int) : Prop where
  lt : r < h.n
  txt : SlIn (h.masks [r]) 1 encB v t
  size : t.length ≤ 16384
  byte : ∀ b, b ∈ t → 0 ≤ b ∧ b ≤ 255
theorem RfOk.next {h h' : AHeap} {r : Nat} {v : AVal} {t : List Int} (H : RfOk h r v t) (f : HFrame h h' [r] [r]) : RfOk h' r v t :=
  ⟨Nat.lt_of_lt_of_le H.lt f.n, H.txt.mono (f.masks fun _ h => h).1 (f.masks fun _ h => h).2, H.size, H.byte⟩
def PR.st {α : Type} : PR α → PR Unit
  | .ok _ p => .ok () p
  | .bad e q => .bad e q
/-- What a call of the document's reader answers. -/
def RR (h : AHeap) (r : Nat) (v : AVal) (L : Nat) {α : Type} (R : AVal → AHeap → α → Prop) (Z : AVal → AHeap → Prop) (x : PR α) (res : AVal) (h' : AHeap) : Prop :=
  HFrame h h' [r] [r] ∧ RfSt h' r v L x.st ∧ match x with
    | .ok a _ => R res h' a
    | .bad _ _ => Z res h'

theorem qfail {h : AHeap} {r : Nat} {v : AVal} {p : Nat} {e0 b0 : Int} (g : h.get r = .cells 0 false [v, .int .i64 p, .int .i64 e0, .int .i64 b0]) (hlt : r < h.n) (e : Int) (q : Nat) :
    CallP AP 33 [.ptr r 0 0, .int .i64 e, .int .i64 q] h fun x h' => HFrame h h' [r] [r] ∧ h'.get r = (if e0 = 0 then .cells 0 false [v, .int .i64 p, .int .i64 e, .int .i64 q] else .cells 0 false [v, .int .i64 p, .int .i64 e0, .int .i64 b0]) ∧ h'.n = h.n ∧ ∀ j, j ≠ r → h'.get j = h.get j := by
  refine callP (rfl : Tr.get AP 33 = some A33) ?_
  generalize hQ : (fun (r : AVal) (h' : AHeap) => _) = Q
  have f0 := HFrame.refl (h := h) (F := [r]) (by simpa using hlt)
  simp -implicitDefEqProofs (disch := first | decide | assumption | omega | (simp -implicitDefEqProofs only [AM.RN]; first | done | omega) | fail) only [↓AM.R0, AM.R1, AM.R2, Nat.reduceAdd, Nat.reduceLeDiff, Nat.reduceEqDiff, Int.reduceToNat, Nat.reduceLT, ↓reduceIte, Int.reduceEq, Int.reduceLT, Int.reduceLE, g]
  refine AM.cI_bool (fun hb => ?_) (fun hb => ?_)
  · simp only [decide_eq_true_eq] at hb
    simp -implicitDefEqProofs (disch := first | decide | assumption | omega | (simp -implicitDefEqProofs only [AM.RN]; first | done | omega) | fail) only [↓AM.R0, AM.R1, AM.R2, Nat.reduceAdd, Nat.reduceLeDiff, Nat.reduceEqDiff, Int.reduceToNat, Nat.reduceLT, ↓reduceIte, Int.reduceEq, Int.reduceLT, Int.reduceLE, g]
    subst hQ
    rw [if_pos hb]
    refine ⟨frS (frS f0 (by simp) _) (by simp) _, AHeap.get_set_same _ _ _, by simp, fun j hj => ?_⟩
    rw [AHeap.get_set_ne _ _ hj, AHeap.get_set_ne _ _ hj]
  · simp only [decide_eq_false_iff_not] at hb
    simp -implicitDefEqProofs (disch := first | decide | assumption | omega | (simp -implicitDefEqProofs only [AM.RN]; first | done | omega) | fail) only [↓AM.R0, AM.R1, AM.R2, Nat.reduceAdd, Nat.reduceLeDiff, Nat.reduceEqDiff, Int.reduceToNat, Nat.reduceLT, ↓reduceIte, Int.reduceEq, Int.reduceLT, Int.reduceLE]
    subst hQ
    rw [if_neg hb]
    exact ⟨f0, g, rfl, fun _ _ => rfl⟩

theorem qword {h : AHeap} {r : Nat} {v : AVal} {t : List Int} (H : RfOk h r v t) {st : PR Unit} (S : RfSt h r v t.length st) :
    CallP AP 43 [.ptr r 0 0] h (RR h r v t.length (fun x _ (n : Nat) => x = .int .u64 n ∧ n < 18446744073709551616) (fun x _ => x = .int .u64 0) (st.bind fun _ p => pword t p)) := by
  refine callP (rfl : Tr.get AP 43 = some A43) ?_
  generalize hQ : RR h r v t.length (fun x _ (n : Nat) => x = .int .u64 n ∧ n < 18446744073709551616) (fun x _ => x = .int .u64 0) (st.bind fun _ p => pword t p) = Q
  have f0 := HFrame.refl (h := h) (F := [r]) (by simpa using H.lt)
  have hlt := H.lt
  cases st with
  | bad e q =>
    obtain ⟨he, p, hg, hp⟩ := S
    simp -implicitDefEqProofs (disch := first | decide | assumption | omega | (simp -implicitDefEqProofs only [AM.RN]; first | done | omega) | fail) only [↓AM.R0, AM.R1, AM.R2, Nat.reduceAdd, Nat.reduceLeDiff, Nat.reduceEqDiff, Int.reduceToNat, Nat.reduceLT, ↓reduceIte, Int.reduceEq, Int.reduceLT, Int.reduceLE, hg]
    refine AM.loopI_of (fun k e' h' => e'.val 0 = .ptr r 0 0 ∧ h' = h) 0 ?_ ?_
    · simp -implicitDefEqProofs (disch := first | decide | assumption | omega | (simp -implicitDefEqProofs only [AM.RN]; first | done | omega) | fail) only [↓AM.R0, AM.R1, AM.R2, Nat.reduceAdd, Nat.reduceLeDiff, Nat.reduceEqDiff, Int.reduceToNat, Nat.reduceLT, ↓reduceIte, Int.reduceEq, Int.reduceLT, Int.reduceLE]
    · rintro k e' h' ⟨e0, rfl⟩
      simp -implicitDefEqProofs (disch := first | decide | assumption | omega | (simp -implicitDefEqProofs only [AM.RN]; first | done | omega) | fail) only [↓AM.R0, AM.R1, AM.R2, Nat.reduceAdd, Nat.reduceLeDiff, Nat.reduceEqDiff, Int.reduceToNat, Nat.reduceLT, ↓reduceIte, Int.reduceEq, Int.reduceLT, Int.reduceLE, e0, hg, he]
      subst hQ
      exact ⟨f0, ⟨he, p, hg, hp⟩, rfl⟩
  | ok _ p =>
    obtain ⟨hg, hp⟩ := S
    simp -implicitDefEqProofs (disch := first | decide | assumption | omega | (simp -implicitDefEqProofs only [AM.RN]; first | done | omega) | fail) only [↓AM.R0, AM.R1, AM.R2, Nat.reduceAdd, Nat.reduceLeDiff, Nat.reduceEqDiff, Int.reduceToNat, Nat.reduceLT, ↓reduceIte, Int.reduceEq, Int.reduceLT, Int.reduceLE, hg]
    refine AM.loopI_of (fun k e h' => ∃ (i q n : Nat), k + q = t.length ∧ q ≤ t.length ∧ e.val 0 = .ptr r 0 0 ∧ e.val 3 = .int .i64 p ∧ e.val 4 = .int .u64 n ∧ e.val 5 = .int .i64 i ∧ i ≤ 9 ∧ n < 2 ^ (7 * i) ∧
      pword t p = wordR p (t.drop q) q i n ∧ HFrame h h' [r] [r] ∧ h'.get r = .cells 0 false [v, .int .i64 q, .int .i64 0, .int .i64 0]) (t.length - p) ?_ ?_
    · refine ⟨0, p, 0, by omega, hp, ?_, ?_, ?_, ?_, by omega, by simp, rfl, f0, hg⟩ <;> simp -implicitDefEqProofs (disch := first | decide | assumption | omega | (simp -implicitDefEqProofs only [AM.RN]; first | done | omega) | fail) only [↓AM.R0, AM.R1, AM.R2, Nat.reduceAdd, Nat.reduceLeDiff, Nat.reduceEqDiff, Int.reduceToNat, Nat.reduceLT, ↓reduceIte, Int.reduceEq, Int.reduceLT, Int.reduceLE] <;> rfl
    · rintro k e h' ⟨i, q, n, hk, hq, e0, e3, e4, e5, hi, hn, heq, f, g⟩
      have H' := H.next f
      have hlt' := H'.lt
      have hlen := H'.txt.len
      simp -implicitDefEqProofs (disch := first | decide | assumption | omega | (simp -implicitDefEqProofs only [AM.RN]; first | done | omega) | fail) only [↓AM.R0, AM.R1, AM.R2, Nat.reduceAdd, Nat.reduceLeDiff, Nat.reduceEqDiff, Int.reduceToNat, Nat.reduceLT, ↓reduceIte, Int.reduceEq, Int.reduceLT, Int.reduceLE, e0, e3, e4, e5, g, hlen]
      refine AM.cI_bool (fun hb => ?_) (fun hb => ?_)
      · simp only [decide_eq_true_eq] at hb
        have hqe : q = t.length := by omega
        simp -implicitDefEqProofs (disch := first | decide | assumption | omega | (simp -implicitDefEqProofs only [AM.RN]; first | done | omega) | fail) only [↓AM.R0, AM.R1, AM.R2, Nat.reduceAdd, Nat.reduceLeDiff, Nat.reduceEqDiff, Int.reduceToNat, Nat.reduceLT, ↓reduceIte, Int.reduceEq, Int.reduceLT, Int.reduceLE, e0, e3]
        refine AM.callI_of (qfail g hlt' 7 p) ?_
        rintro x h2 ⟨f2, g2, n2, k2⟩
        simp -implicitDefEqProofs (disch := first | decide | assumption | omega | (simp -implicitDefEqProofs only [AM.RN]; first | done | omega) | fail) only [↓AM.R0, AM.R1, AM.R2, Nat.reduceAdd, Nat.reduceLeDiff, Nat.reduceEqDiff, Int.reduceToNat, Nat.reduceLT, ↓reduceIte, Int.reduceEq, Int.reduceLT, Int.reduceLE]
        subst hQ
        simp only [PR.ok_bind, RR]
        rw [heq, hqe, List.drop_length]
        exact ⟨f.trans f2, ⟨by decide, q, g2, hq⟩, trivial⟩
      · simp only [decide_eq_false_iff_not] at hb
        obtain ⟨b, hbq⟩ : ∃ b, t[q]? = some b := ⟨_, List.getElem?_eq_getElem (by omega)⟩
        obtain ⟨hb0, hb1⟩ := H.byte b (List.mem_of_getElem? hbq)
        obtain ⟨j, gg, off, vs, ro, x1, x2, x3, x5⟩ := ((H'.txt.rd hbq).unmask).ix1 (enc := fun n => .int .u8 n) hbq .i64
        have hw : IntKind.i64.wrap ((q : Int) + 1) = ((q + 1 : Nat) : Int) := wrap64 (by omega) (by have := H.size; omega)
        have hd := rdrop hbq
        have fS : ∀ o, HFrame h (h'.set r o) [r] [r] := fun o => f.trans (HFrame.set h' r o List.mem_cons_self f.lt)
        simp -implicitDefEqProofs (disch := first | decide | assumption | omega | (simp -implicitDefEqProofs only [AM.RN]; first | done | omega) | fail) only [AM.RGB, ↓AM.R0, AM.R1, AM.R2, Nat.reduceAdd, Nat.reduceLeDiff, Nat.reduceEqDiff, Int.reduceToNat, Nat.reduceLT, ↓reduceIte, Int.reduceEq, Int.reduceLT, Int.reduceLE, e0, e3, e4, e5, g, x1, x2, x5, hw]
        refine AM.cI_bool (fun hc => ?_) (fun hc => ?_)
        · have hc' : (i = 9 ∧ 1 < b) ∨ (0 < i ∧ b = 0) := by
            simp only [Bool.or_eq_true, Bool.and_eq_true, decide_eq_true_eq] at hc
            omega
          simp -implicitDefEqProofs (disch := first | decide | assumption | omega | (simp -implicitDefEqProofs only [AM.RN]; first | done | omega) | fail) only [↓AM.R0, AM.R1, AM.R2, Nat.reduceAdd, Nat.reduceLeDiff, Nat.reduceEqDiff, Int.reduceToNat, Nat.reduceLT, ↓reduceIte, Int.reduceEq, Int.reduceLT, Int.reduceLE, e0, e3]
          refine AM.callI_of (qfail (AHeap.get_set_same _ _ _) (by simpa using hlt') 8 p) ?_
          rintro x h2 ⟨f2, g2, n2, k2⟩
          simp -implicitDefEqProofs (disch := first | decide | assumption | omega | (simp -implicitDefEqProofs only [AM.RN]; first | done | omega) | fail) only [↓AM.R0, AM.R1, AM.R2, Nat.reduceAdd, Nat.reduceLeDiff, Nat.reduceEqDiff, Int.reduceToNat, Nat.reduceLT, ↓reduceIte, Int.reduceEq, Int.reduceLT, Int.reduceLE]
          subst hQ
          simp only [PR.ok_bind, RR]
          rw [heq, hd, wordR, if_pos hc']
          exact ⟨(fS _).trans f2, ⟨by decide, q + 1, g2, by omega⟩, trivial⟩
        · have hc' : ¬ ((i = 9 ∧ 1 < b) ∨ (0 < i ∧ b = 0)) := by
            simp only [Bool.or_eq_false_iff, Bool.and_eq_false_imp, decide_eq_true_eq, decide_eq_false_iff_not] at hc
            omega
          have hx : n + b.toNat % 128 * 2 ^ (7 * i) < 2 ^ (7 * i + 7) := by
            have h1 : b.toNat % 128 < 128 := Nat.mod_lt _ (by omega)
            have h2 : (b.toNat % 128 + 1) * 2 ^ (7 * i) ≤ 128 * 2 ^ (7 * i) := Nat.mul_le_mul_right _ h1
            rw [Nat.pow_add, Nat.add_mul] at *
            omega
          have hx64 : n + b.toNat % 128 * 2 ^ (7 * i) < 18446744073709551616 := by
            by_cases h9 : i = 9
            · subst h9
              have h1 : b.toNat ≤ 1 := by omega
              have h2 : b.toNat % 128 ≤ 1 := by omega
              have h3 := Nat.mul_le_mul_right (2 ^ (7 * 9)) h2
              have h4 : (2 : Nat) ^ (7 * 9) = 9223372036854775808 := by decide
              omega
            · have h5 : (2 : Nat) ^ (7 * i + 7) ≤ 2 ^ 63 := Nat.pow_le_pow_right (by omega) (by omega)
              have h4 : (2 : Nat) ^ 63 = 9223372036854775808 := by decide
              omega
          have t1 : b.tmod 128 = ((b.toNat % 128 : Nat) : Int) := by rw [Int.tmod_eq_emod_of_nonneg hb0]; omega
          have a2 : ∀ h, binV h .shl (.int .u64 ((b.toNat % 128 : Nat) : Int)) (.int .u64 ((7 * i : Nat) : Int)) = some (.int .u64 ((b.toNat % 128 * 2 ^ (7 * i) : Nat) : Int), h) := fun h => by
            rw [AM.bin_shl h .u64 .u64 _ _ (by omega)]
            have h1 : min ((7 * i : Nat) : Int).toNat IntKind.u64.bits = 7 * i := by
              show min (7 * i) 64 = _
              omega
            rw [h1]
            have h2 : (((b.toNat % 128 : Nat) : Int) * 2 ^ (7 * i)) = ((b.toNat % 128 * 2 ^ (7 * i) : Nat) : Int) := by simp
            rw [h2, wrapU64 (by omega) (by omega)]
          have w1 : IntKind.u64.wrap ((b.toNat % 128 : Nat) : Int) = ((b.toNat % 128 : Nat) : Int) := wrapU64 (by omega) (by omega)
          have w2 : IntKind.i64.wrap (7 * (i : Int)) = ((7 * i : Nat) : Int) := by rw [wrap64 (by omega) (by omega)]; omega
          have w3 : IntKind.u64.wrap ((7 * i : Nat) : Int) = ((7 * i : Nat) : Int) := wrapU64 (by omega) (by omega)
          have w4 : IntKind.u64.wrap ((n : Int) + ((b.toNat % 128 * 2 ^ (7 * i) : Nat) : Int)) = ((n + b.toNat % 128 * 2 ^ (7 * i) : Nat) : Int) := by rw [wrapU64 (by omega) (by omega)]; omega
          simp -implicitDefEqProofs (disch := first | decide | assumption | omega | (simp -implicitDefEqProofs only [AM.RN]; first | done | omega) | fail) only [↓AM.R0, AM.R1, AM.R2, Nat.reduceAdd, Nat.reduceLeDiff, Nat.reduceEqDiff, Int.reduceToNat, Nat.reduceLT, ↓reduceIte, Int.reduceEq, Int.reduceLT, Int.reduceLE, e0, e3, e4, e5, t1, a2, w1, w2, w3, w4]
          refine AM.cI_bool (fun hd' => ?_) (fun hd' => ?_)
          · simp only [decide_eq_true_eq] at hd'
            simp -implicitDefEqProofs (disch := first | decide | assumption | omega | (simp -implicitDefEqProofs only [AM.RN]; first | done | omega) | fail) only [↓AM.R0, AM.R1, AM.R2, Nat.reduceAdd, Nat.reduceLeDiff, Nat.reduceEqDiff, Int.reduceToNat, Nat.reduceLT, ↓reduceIte, Int.reduceEq, Int.reduceLT, Int.reduceLE]
            subst hQ
            simp only [PR.ok_bind, RR]
            rw [heq, hd, wordR, if_neg hc', if_pos hd']
            exact ⟨fS _, ⟨AHeap.get_set_same _ _ _, by omega⟩, rfl, hx64⟩
          · simp only [decide_eq_false_iff_not] at hd'
            have hi9 : i ≠ 9 := by omega
            have hw7 : IntKind.i64.wrap ((i : Int) + 1) = ((i + 1 : Nat) : Int) := by rw [wrap64 (by omega) (by omega)]; omega
            simp -implicitDefEqProofs (disch := first | decide | assumption | omega | (simp -implicitDefEqProofs only [AM.RN]; first | done | omega) | fail) only [↓AM.R0, AM.R1, AM.R2, Nat.reduceAdd, Nat.reduceLeDiff, Nat.reduceEqDiff, Int.reduceToNat, Nat.reduceLT, ↓reduceIte, Int.reduceEq, Int.reduceLT, Int.reduceLE, e0, e3, e4, e5, hw7]
            have heq2 : pword t p = wordR p (t.drop (q + 1)) (q + 1) (i + 1) (n + b.toNat % 128 * 2 ^ (7 * i)) := by rw [heq, hd, wordR, if_neg hc', if_neg hd']
            have fS' := fS (.cells 0 false [v, .int .i64 ((q + 1 : Nat) : Int), .int .i64 0, .int .i64 0])
            refine ⟨t.length - (q + 1), by omega, i + 1, q + 1, n + b.toNat % 128 * 2 ^ (7 * i), ?_⟩
            and_intros <;> first | omega | (rw [Nat.mul_add]; exact hx) | exact heq2 | exact fS' | rfl

theorem qnum {h : AHeap} {r : Nat} {v : AVal} {t : List Int} (H : RfOk h r v t) {st : PR Unit} (S : RfSt h r v t.length st) (lim : Nat) (e : Int) (hlim : lim ≤ 65535) (he0 : e ≠ 0) :
    CallP AP 30 [.ptr r 0 0, .int .i64 lim, .int .i64 e] h (RR h r v t.length (fun x _ (n : Nat) => x = .int .i64 n ∧ n ≤ lim) (fun x _ => x = .int .i64 0) (st.bind fun _ p => pnum t lim e p)) := by
  refine callP (rfl : Tr.get AP 30 = some A30) ?_
  generalize hQ : RR h r v t.length (fun x _ (n : Nat) => x = .int .i64 n ∧ n ≤ lim) (fun x _ => x = .int .i64 0) (st.bind fun _ p => pnum t lim e p) = Q
  have hlt := H.lt
  have W := qword H S
  have w1 : IntKind.u64.wrap (lim : Int) = (lim : Int) := wrapU64 (by omega) (by omega)
  have w0 : IntKind.i64.wrap (0 : Int) = 0 := wrap64 (by omega) (by omega)
  cases st with
  | bad e2 q =>
    obtain ⟨he, p, hg, hp⟩ := S
    simp -implicitDefEqProofs (disch := first | decide | assumption | omega | (simp -implicitDefEqProofs only [AM.RN]; first | done | omega) | fail) only [↓AM.R0, AM.R1, AM.R2, Nat.reduceAdd, Nat.reduceLeDiff, Nat.reduceEqDiff, Int.reduceToNat, Nat.reduceLT, ↓reduceIte, Int.reduceEq, Int.reduceLT, Int.reduceLE, hg]
    refine AM.callI_of W ?_
    rintro x h2 ⟨f2, ⟨he', p2, hg2, hp2⟩, rfl⟩
    have hz : decide ((lim : Int) < 0) = false := decide_eq_false (by omega)
    simp -implicitDefEqProofs (disch := first | decide | assumption | omega | (simp -implicitDefEqProofs only [AM.RN]; first | done | omega) | fail) only [↓AM.R0, AM.R1, AM.R2, Nat.reduceAdd, Nat.reduceLeDiff, Nat.reduceEqDiff, Int.reduceToNat, Nat.reduceLT, ↓reduceIte, Int.reduceEq, Int.reduceLT, Int.reduceLE, w1, hz, w0]
    subst hQ
    exact ⟨f2, ⟨he, p2, hg2, hp2⟩, rfl⟩
  | ok _ p =>
    obtain ⟨hg, hp⟩ := S
    simp -implicitDefEqProofs (disch := first | decide | assumption | omega | (simp -implicitDefEqProofs only [AM.RN]; first | done | omega) | fail) only [↓AM.R0, AM.R1, AM.R2, Nat.reduceAdd, Nat.reduceLeDiff, Nat.reduceEqDiff, Int.reduceToNat, Nat.reduceLT, ↓reduceIte, Int.reduceEq, Int.reduceLT, Int.reduceLE, hg]
    refine AM.callI_of W ?_
    simp only [PR.ok_bind, pnum] at hQ ⊢
    cases hp2 : pword t p with
    | bad e2 q2 =>
      rw [hp2] at hQ
      rintro x h2 ⟨f2, S2, rfl⟩
      have hz : decide ((lim : Int) < 0) = false := decide_eq_false (by omega)
      simp -implicitDefEqProofs (disch := first | decide | assumption | omega | (simp -implicitDefEqProofs only [AM.RN]; first | done | omega) | fail) only [↓AM.R0, AM.R1, AM.R2, Nat.reduceAdd, Nat.reduceLeDiff, Nat.reduceEqDiff, Int.reduceToNat, Nat.reduceLT, ↓reduceIte, Int.reduceEq, Int.reduceLT, Int.reduceLE, w1, hz, w0]
      subst hQ
      exact ⟨f2, S2, rfl⟩
    | ok n q2 =>
      rw [hp2] at hQ
      rintro x h2 ⟨f2, S2, rfl, hn⟩
      obtain ⟨hg2, hq2⟩ := S2
      simp -implicitDefEqProofs (disch := first | decide | assumption | omega | (simp -implicitDefEqProofs only [AM.RN]; first | done | omega) | fail) only [↓AM.R0, AM.R1, AM.R2, Nat.reduceAdd, Nat.reduceLeDiff, Nat.reduceEqDiff, Int.reduceToNat, Nat.reduceLT, ↓reduceIte, Int.reduceEq, Int.reduceLT, Int.reduceLE, w1]
      refine AM.cI_bool (fun hb => ?_) (fun hb => ?_)
      · simp only [decide_eq_true_eq] at hb
        simp -implicitDefEqProofs (disch := first | decide | assumption | omega | (simp -implicitDefEqProofs only [AM.RN]; first | done | omega) | fail) only [↓AM.R0, AM.R1, AM.R2, Nat.reduceAdd, Nat.reduceLeDiff, Nat.reduceEqDiff, Int.reduceToNat, Nat.reduceLT, ↓reduceIte, Int.reduceEq, Int.reduceLT, Int.reduceLE]
        refine AM.callI_of (qfail hg2 (H.next f2).lt e p) ?_
        rintro x h3 ⟨f3, g3, n3, k3⟩
        simp -implicitDefEqProofs (disch := first | decide | assumption | omega | (simp -implicitDefEqProofs only [AM.RN]; first | done | omega) | fail) only [↓AM.R0, AM.R1, AM.R2, Nat.reduceAdd, Nat.reduceLeDiff, Nat.reduceEqDiff, Int.reduceToNat, Nat.reduceLT, ↓reduceIte, Int.reduceEq, Int.reduceLT, Int.reduceLE]
        subst hQ
        rw [PR.ok_bind, if_pos (by omega)]
        exact ⟨f2.trans f3, ⟨he0, q2, g3, hq2⟩, rfl⟩
      · simp only [decide_eq_false_iff_not] at hb
        have w2 : IntKind.i64.wrap (n : Int) = (n : Int) := wrap64 (by omega) (by omega)
        simp -implicitDefEqProofs (disch := first | decide | assumption | omega | (simp -implicitDefEqProofs only [AM.RN]; first | done | omega) | fail) only [↓AM.R0, AM.R1, AM.R2, Nat.reduceAdd, Nat.reduceLeDiff, Nat.reduceEqDiff, Int.reduceToNat, Nat.reduceLT, ↓reduceIte, Int.reduceEq, Int.reduceLT, Int.reduceLE, w2]
        subst hQ
        rw [PR.ok_bind, if_neg (by omega)]
        exact ⟨f2, ⟨hg2, hq2⟩, rfl, by omega⟩

def ZK (x : AVal) (h' : AHeap) : Prop := x.cells = [x] ∧ x.cell = true
abbrev RKN (h : AHeap) (lim : Nat) (x : AVal) (h' : AHeap) (l : List Nat) : Prop := (∀ M : List Nat, (∀ j, j ∈ M → j < h.n) → SlRd (h'.masks M) 1 encK x (asK l)) ∧ l.length ≤ lim

/-- A step's state: what has been read, or the fault. -/
def LStep {α : Type} (f : Nat → PR α) (n p k : Nat) (l : List α) (st : PR Unit) : Prop := match st with
  | .ok _ q => plist f n p = (plist f k q).bind fun l2 p => .ok (l ++ l2) p
  | .bad e q => plist f n p = .bad e q

theorem RfSt.frame {h h' : AHeap} {r : Nat} {v : AVal} {L : Nat} {st : PR Unit} (s : RfSt h r v L st) (g : h'.get r = h.get r) : RfSt h' r v L st := by
  cases st with
  | ok _ p => exact ⟨g.trans s.1, s.2⟩
  | bad e q => obtain ⟨a, p, b, c⟩ := s; exact ⟨a, p, g.trans b, c⟩
theorem LStep.step {α : Type} {f : Nat → PR α} {n p k q : Nat} {l : List α} (hL : LStep f n p (k + 1) l (.ok () q)) (z : α) : ∃ m : α, (∀ a p, f q = .ok a p → m = a) ∧ ((∀ a p, f q ≠ .ok a p) → m = z) ∧ LStep f n p k (l ++ [m]) (f q).st := by
  cases hm : f q with
  | ok a p2 => exact ⟨a, fun a' p' e => by cases e; rfl, fun h => absurd rfl (h a p2), plist_step hL hm⟩
  | bad e p2 => exact ⟨z, fun a' p' e => (nomatch e), fun _ => rfl, plist_bad hL hm⟩
theorem numStep {h' h3 : AHeap} {r : Nat} {v : AVal} {L lim : Nat} {f : Nat → PR Nat} {n p k q : Nat} {l : List Nat} {x : AVal} (hL : LStep f n p (k + 1) l (.ok () q)) (R : RR h' r v L (fun x _ (n : Nat) => x = .int .i64 n ∧ n ≤ lim) (fun x _ => x = .int .i64 0) (f q) x h3) :
    ∃ (m : Nat) (st3 : PR Unit), x = .int .i64 m ∧ HFrame h' h3 [r] [r] ∧ RfSt h3 r v L st3 ∧ LStep f n p k (l ++ [m]) st3 := by
  obtain ⟨f1, S, R⟩ := R
  obtain ⟨m, h1, h2, h3⟩ := hL.step 0
  refine ⟨m, _, ?_, f1, S, h3⟩
  cases hm : f q with
  | ok a p2 => rw [hm] at R; rw [h1 a p2 hm]; exact R.1
  | bad e p2 => rw [hm] at R; rw [h2 (fun a p e => by rw [hm] at e; cases e)]; exact R

theorem qkinds {h : AHeap} {r : Nat} {v : AVal} {t : List Int} (H : RfOk h r v t) {st : PR Unit} (S : RfSt h r v t.length st) (lim : Nat) (hlim : lim ≤ 65535) :
    CallP AP 31 [.ptr r 0 0, .int .i64 lim] h (RR h r v t.length (RKN h lim) ZK (st.bind fun _ p => pkinds t lim p)) := by
  refine callP (rfl : Tr.get AP 31 = some A31) ?_
  generalize hQ : RR h r v t.length (RKN h lim) ZK (st.bind fun _ p => pkinds t lim p) = Q
  have hlt := H.lt
  have W := qnum H S lim 16 hlim (by decide)
  simp -implicitDefEqProofs (disch := first | decide | assumption | omega | (simp -implicitDefEqProofs only [AM.RN]; first | done | omega) | fail) only [↓AM.R0, AM.R1, AM.R2, Nat.reduceAdd, Nat.reduceLeDiff, Nat.reduceEqDiff, Int.reduceToNat, Nat.reduceLT, ↓reduceIte, Int.reduceEq, Int.reduceLT, Int.reduceLE]
  refine AM.callI_of W ?_
  cases hx : (st.bind fun _ p => pnum t lim 16 p) with
  | bad e2 q =>
    rintro x h2 ⟨f2, ⟨he, p2, hg2, hp2⟩, rfl⟩
    have hl := (H.next f2).lt
    simp -implicitDefEqProofs (disch := first | decide | assumption | omega | (simp -implicitDefEqProofs only [AM.RN]; first | done | omega) | fail) only [↓AM.R0, AM.R1, AM.R2, Nat.reduceAdd, Nat.reduceLeDiff, Nat.reduceEqDiff, Int.reduceToNat, Nat.reduceLT, ↓reduceIte, Int.reduceEq, Int.reduceLT, Int.reduceLE]
    refine AM.loopI_of (fun k e' h' => e'.val 0 = .ptr r 0 0 ∧ e'.val 5 = .nils ∧ e'.val 6 = .int .i64 0 ∧ e'.val 7 = .int .i64 0 ∧ h' = h2) 0 ?_ ?_
    · simp -implicitDefEqProofs (disch := first | decide | assumption | omega | (simp -implicitDefEqProofs only [AM.RN]; first | done | omega) | fail) only [↓AM.R0, AM.R1, AM.R2, Nat.reduceAdd, Nat.reduceLeDiff, Nat.reduceEqDiff, Int.reduceToNat, Nat.reduceLT, ↓reduceIte, Int.reduceEq, Int.reduceLT, Int.reduceLE]
    · rintro k e' h' ⟨e0, e5, e6, e7, rfl⟩
      simp -implicitDefEqProofs (disch := first | decide | assumption | omega | (simp -implicitDefEqProofs only [AM.RN]; first | done | omega) | fail) only [AM.RGB, ↓AM.R0, AM.R1, AM.R2, Nat.reduceAdd, Nat.reduceLeDiff, Nat.reduceEqDiff, Int.reduceToNat, Nat.reduceLT, ↓reduceIte, Int.reduceEq, Int.reduceLT, Int.reduceLE, e0, e5, e6, e7, hg2, Int.lt_irrefl]
      subst hQ
      have : (st.bind fun _ p => pkinds t lim p) = .bad e2 q := by
        cases st with
        | bad e q => cases hx; rfl
        | ok _ p => simp only [PR.ok_bind, pkinds] at hx ⊢; rw [hx]; rfl
      rw [this]
      exact ⟨f2, ⟨he, p2, hg2, hp2⟩, rfl, rfl⟩
  | ok n p2 =>
    rintro x h2 ⟨f2, ⟨hg2, hp2⟩, rfl, hn⟩
    have hl := (H.next f2).lt
    have hQ' : (st.bind fun _ p => pkinds t lim p) = plist (pnum t 65535 1) n p2 := by
      cases st with
      | bad e q => cases hx
      | ok _ p => simp only [PR.ok_bind, pkinds] at hx ⊢; rw [hx]; rfl
    rw [hQ'] at hQ
    simp -implicitDefEqProofs (disch := first | decide | assumption | omega | (simp -implicitDefEqProofs only [AM.RN]; first | done | omega) | fail) only [↓AM.R0, AM.R1, AM.R2, Nat.reduceAdd, Nat.reduceLeDiff, Nat.reduceEqDiff, Int.reduceToNat, Nat.reduceLT, ↓reduceIte, Int.reduceEq, Int.reduceLT, Int.reduceLE]
    refine AM.loopI_of (fun k e h' => ∃ (l : List Nat) (st : PR Unit) (lv : AVal) (F : List Nat), k + l.length = n ∧ e.val 0 = .ptr r 0 0 ∧ e.val 6 = .int .i64 n ∧ e.val 7 = .int .i64 l.length ∧ e.val 5 = lv ∧
      SlOf h' 1 encK lv (asK l) F ∧ (∀ j, j ∈ F → h.n ≤ j) ∧ HFrame h h' [r] [r] ∧ RfSt h' r v t.length st ∧ LStep (pnum t 65535 1) n p2 k l st) n ?_ ?_
    · have hF0 : ∀ j, j ∈ ([] : List Nat) → h.n ≤ j := fun j hj => nomatch hj
      have hS : RfSt h2 r v t.length (.ok () p2) := ⟨hg2, hp2⟩
      have hL : LStep (pnum t 65535 1) n p2 n [] (.ok () p2) := plist_start _ _ _
      refine ⟨[], .ok () p2, .nils, [], ?_⟩
      simp -implicitDefEqProofs (disch := first | decide | assumption | omega | (simp -implicitDefEqProofs only [AM.RN]; first | done | omega) | fail) only [↓AM.R0, AM.R1, AM.R2, Nat.reduceAdd, Nat.reduceLeDiff, Nat.reduceEqDiff, Int.reduceToNat, Nat.reduceLT, ↓reduceIte, Int.reduceEq, Int.reduceLT, Int.reduceLE]
      and_intros <;> first | omega | exact SlOf.nil | exact hF0 | exact f2 | exact hS | exact hL | rfl
    · rintro k e h' ⟨l, st2, lv, F, hk, e0, e6, e7, e5, hs, hF, f, S', hL⟩
      have H' := H.next f
      have hlt' := H'.lt
      have hrF : r ∉ F := fun hm => by have := hF r hm; omega
      obtain ⟨d1, d2⟩ := hs.rd.cells
      cases st2 with
      | bad e2 q =>
        obtain ⟨he, p3, hg3, hp3⟩ := S'
        simp -implicitDefEqProofs (disch := first | decide | assumption | omega | (simp -implicitDefEqProofs only [AM.RN]; first | done | omega) | fail) only [AM.RGB, ↓AM.R0, AM.R1, AM.R2, Nat.reduceAdd, Nat.reduceLeDiff, Nat.reduceEqDiff, Int.reduceToNat, Nat.reduceLT, ↓reduceIte, Int.reduceEq, Int.reduceLT, Int.reduceLE, e0, e5, e6, e7, hg3, he]
        subst hQ
        rw [show plist (pnum t 65535 1) n p2 = .bad e2 q from hL]
        exact ⟨f, ⟨he, p3, hg3, hp3⟩, d1, d2⟩
      | ok _ q =>
        obtain ⟨hg3, hp3⟩ := S'
        simp -implicitDefEqProofs (disch := first | decide | assumption | omega | (simp -implicitDefEqProofs only [AM.RN]; first | done | omega) | fail) only [AM.RGB, ↓AM.R0, AM.R1, AM.R2, Nat.reduceAdd, Nat.reduceLeDiff, Nat.reduceEqDiff, Int.reduceToNat, Nat.reduceLT, ↓reduceIte, Int.reduceEq, Int.reduceLT, Int.reduceLE, e0, e5, e6, e7, hg3]
        refine AM.cI_bool (fun hb => ?_) (fun hb => ?_)
        · simp only [decide_eq_true_eq] at hb
          obtain ⟨k, rfl⟩ : ∃ m, k = m + 1 := ⟨k - 1, by omega⟩
          have hw : IntKind.i64.wrap ((l.length : Int) + 1) = ((l.length + 1 : Nat) : Int) := wrap64 (by omega) (by omega)
          have W := qnum H' (st := .ok () q) ⟨hg3, hp3⟩ 65535 1 (by omega) (by decide)
          simp -implicitDefEqProofs (disch := first | decide | assumption | omega | (simp -implicitDefEqProofs only [AM.RN]; first | done | omega) | fail) only [↓AM.R0, AM.R1, AM.R2, Nat.reduceAdd, Nat.reduceLeDiff, Nat.reduceEqDiff, Int.reduceToNat, Nat.reduceLT, ↓reduceIte, Int.reduceEq, Int.reduceLT, Int.reduceLE, e0, e5, e6, e7]
          refine AM.callI_of W ?_
          rw [PR.ok_bind]
          rintro x h3 q3
          obtain ⟨m, st3, rfl, f3, S3, hL3⟩ := numStep hL q3
          have hs3 := hs.frame f3.n fun j hj => f3.get j (hs.lt j hj) (by simp; intro e; exact hrF (e ▸ hj))
          simp -implicitDefEqProofs (disch := first | decide | assumption | omega | (simp -implicitDefEqProofs only [AM.RN]; first | done | omega) | fail) only [↓AM.R0, AM.R1, AM.R2, Nat.reduceAdd, Nat.reduceLeDiff, Nat.reduceEqDiff, Int.reduceToNat, Nat.reduceLT, ↓reduceIte, Int.reduceEq, Int.reduceLT, Int.reduceLE, e0, e5, e6, e7]
          refine AM.opI_of (hs3.app1 (fun _ => rfl) (fun _ => rfl) (by simp [asK]; omega) (m : Int) fun v' h4 F4 s4 f4 => ?_)
          simp -implicitDefEqProofs (disch := first | decide | assumption | omega | (simp -implicitDefEqProofs only [AM.RN]; first | done | omega) | fail) only [↓AM.R0, AM.R1, AM.R2, Nat.reduceAdd, Nat.reduceLeDiff, Nat.reduceEqDiff, Int.reduceToNat, Nat.reduceLT, ↓reduceIte, Int.reduceEq, Int.reduceLT, Int.reduceLE, e0, e5, e6, e7, hw]
          have s4' : SlOf h4 1 encK v' (asK (l ++ [m])) F4 := by rw [show asK (l ++ [m]) = asK l ++ [(m : Int)] by simp [asK]]; exact s4
          obtain ⟨f14, hF4⟩ := tmpF (n := h.n) (f.trans f3) f4 (by omega) (by have h1 := f.n; have h2 := f3.n; omega) hF
          have S4 : RfSt h4 r v t.length st3 := RfSt.frame S3 (f4.get r (H'.next f3).lt hrF)
          refine ⟨k, by omega, l ++ [m], st3, v', F4, ?_⟩
          rw [List.length_append, List.length_cons, List.length_nil]
          and_intros <;> first | omega | exact s4' | exact hF4 | exact f14 | exact S4 | exact hL3 | rfl
        · simp only [decide_eq_false_iff_not] at hb
          have hk0 : k = 0 := by omega
          subst hk0
          simp -implicitDefEqProofs (disch := first | decide | assumption | omega | (simp -implicitDefEqProofs only [AM.RN]; first | done | omega) | fail) only [↓AM.R0, AM.R1, AM.R2, Nat.reduceAdd, Nat.reduceLeDiff, Nat.reduceEqDiff, Int.reduceToNat, Nat.reduceLT, ↓reduceIte, Int.reduceEq, Int.reduceLT, Int.reduceLE, e5]
          subst hQ
          rw [plist_done hL]
          exact ⟨f, ⟨hg3, hp3⟩, fun M hM => (hs.masks fun j hj hm => by have h1 := hM j hm; have h2 := hF j hj; omega).rd, by omega⟩
end Go.Proofs.Ytfagngiceofoeaa.Cd

namespace Go.Proofs.Ytfagngiceofoeaa.Cd
open Go Go.AM Go.Proofs.Ytfagngiceofoeaa.AmGC
attribute [local irreducible] AM.wp AM.wpIs AM.wpTr AM.opI AM.gI AM.cI AM.trI AM.callI AM.fnI AM.trG AM.trOp AM.trCall AM.seqC AM.loopI
set_option maxRecDepth 100000
set_option linter.unusedVariables false
set_option linter.unusedSimpArgs false

/-- A step of the reading: its value, and how it goes on. -/
theorem chN {β : Type} {mk : Nat → AVal} {Pm : Nat → Prop} {h h' : AHeap} {r : Nat} {v : AVal} {L : Nat} {st : PR Unit} {G : PR β} {rest : Nat → Nat → PR β} {f : Nat → PR Nat} (h0 : Pm 0) (hG : G = st.bind fun _ p => (f p).bind rest) {x : AVal}
    (R : RR h r v L (fun x _ n => x = mk n ∧ Pm n) (fun x _ => x = mk 0) (st.bind fun _ p => f p) x h') :
    ∃ (m : Nat) (st' : PR Unit), x = mk m ∧ HFrame h h' [r] [r] ∧ RfSt h' r v L st' ∧ G = (st'.bind fun _ p => rest m p) ∧ Pm m ∧ ∀ q, st' = .ok () q → ∃ q0, st = .ok () q0 := by
  obtain ⟨f1, S, R⟩ := R
  cases hs : (st.bind fun _ p => f p) with
  | bad e q =>
    rw [hs] at S R
    refine ⟨0, .bad e q, R, f1, S, ?_, h0, fun q e => (nomatch e)⟩
    rw [hG]
    cases st with
    | bad e' q' => cases hs; rfl
    | ok _ p => simp only [PR.ok_bind] at hs ⊢; rw [hs]; rfl
  | ok a q =>
    rw [hs] at S R
    cases st with
    | bad e' q' => cases hs
    | ok _ p =>
      simp only [PR.ok_bind] at hs hG
      refine ⟨a, .ok () q, R.1, f1, S, ?_, R.2, fun q e => ⟨p, rfl⟩⟩
      rw [hG, hs]; rfl
theorem chI {β : Type} {lim : Nat} {h h' : AHeap} {r : Nat} {v : AVal} {L : Nat} {st : PR Unit} {G : PR β} {rest : Nat → Nat → PR β} {f : Nat → PR Nat} (hG : G = st.bind fun _ p => (f p).bind rest) {x : AVal}
    (R : RR h r v L (fun x _ (n : Nat) => x = .int .i64 n ∧ n ≤ lim) (fun x _ => x = .int .i64 0) (st.bind fun _ p => f p) x h') :
    ∃ (m : Nat) (st' : PR Unit), x = .int .i64 m ∧ HFrame h h' [r] [r] ∧ RfSt h' r v L st' ∧ G = (st'.bind fun _ p => rest m p) ∧ m ≤ lim ∧ ∀ q, st' = .ok () q → ∃ q0, st = .ok () q0 :=
  chN (mk := fun n => .int .i64 n) (Pm := fun n => n ≤ lim) (Nat.zero_le _) hG R
theorem chV {α β : Type} {Rv : AVal → AHeap → α → Prop} {Zv : AVal → AHeap → Prop} (d : α) {h h' : AHeap} {r : Nat} {v : AVal} {L : Nat} {st : PR Unit} {G : PR β} {rest : α → Nat → PR β} {f : Nat → PR α} (hG : G = st.bind fun _ p => (f p).bind rest) {x : AVal}
    (R : RR h r v L Rv Zv (st.bind fun _ p => f p) x h') :
    ∃ (m : α) (st' : PR Unit), (Zv x h' ∨ Rv x h' m) ∧ (∀ q, st' = .ok () q → Rv x h' m) ∧ HFrame h h' [r] [r] ∧ RfSt h' r v L st' ∧ G = (st'.bind fun _ p => rest m p) ∧ ∀ q, st' = .ok () q → ∃ q0, st = .ok () q0 := by
  obtain ⟨f1, S, R⟩ := R
  cases hs : (st.bind fun _ p => f p) with
  | bad e q =>
    rw [hs] at S R
    refine ⟨d, .bad e q, .inl R, fun q e => (nomatch e), f1, S, ?_, fun q e => (nomatch e)⟩
    rw [hG]
    cases st with
    | bad e' q' => cases hs; rfl
    | ok _ p => simp only [PR.ok_bind] at hs ⊢; rw [hs]; rfl
  | ok a q =>
    rw [hs] at S R
    cases st with
    | bad e' q' => cases hs
    | ok _ p =>
      simp only [PR.ok_bind] at hs hG
      refine ⟨a, .ok () q, .inr R, fun _ _ => R, f1, S, ?_, fun q e => ⟨p, rfl⟩⟩
      rw [hG, hs]; rfl

/-- The reader, and two objects of its caller's. -/
structure QS (h0 h : AHeap) (r : Nat) (v : AVal) (t : List Int) (st : PR Unit) (z P : Nat) (oz o : AObj) : Prop where
  H0 : RfOk h0 r v t
  S : RfSt h r v t.length st
  f : HFrame h0 h [r] [r]
  gz : h.get z = oz
  g : h.get P = o
  lt : P < h.n
  hz : h0.n ≤ z
  zP : z < P
namespace QS
variable {h0 h h' : AHeap} {r : Nat} {v : AVal} {t : List Int} {st st' : PR Unit} {z P : Nat} {oz o o' : AObj}
theorem ok (q : QS h0 h r v t st z P oz o) : RfOk h r v t := q.H0.next q.f
theorem rz (q : QS h0 h r v t st z P oz o) : r < z := by have := q.H0.lt; have := q.hz; omega
theorem call (q : QS h0 h r v t st z P oz o) (f : HFrame h h' [r] [r]) (S : RfSt h' r v t.length st') : QS h0 h' r v t st' z P oz o :=
  ⟨q.H0, S, q.f.trans f, kp f q.gz (by have := q.lt; have := q.zP; omega) (by have := q.rz; omega), kp f q.g q.lt (by have := q.rz; have := q.zP; omega), Nat.lt_of_lt_of_le q.lt f.n, q.hz, q.zP⟩
theorem set (q : QS h0 h r v t st z P oz o) (o' : AObj) : QS h0 (h.set P o') r v t st z P oz o' := by
  have h1 := q.rz; have h2 := q.zP; have h3 := q.hz
  exact ⟨q.H0, q.S.frame (AHeap.get_set_ne _ _ (by omega)), q.f.setTmp (by omega) _, (AHeap.get_set_ne _ _ (by omega)).trans q.gz, AHeap.get_set_same _ _ _, q.lt, q.hz, q.zP⟩
/-- Code that changes what is its own and new. -/
theorem tmp (q : QS h0 h r v t st z P oz o) {F F' : List Nat} (f : HFrame h h' F F') (hF : ∀ j, j ∈ F → P < j) : QS h0 h' r v t st z P oz o ∧ ∀ j, j ∈ F' → P < j := by
  have h1 := q.rz; have h2 := q.zP; have h3 := q.hz; have h4 := q.lt
  obtain ⟨f1, f2⟩ := tmpF (n := P + 1) q.f f (by omega) (by omega) hF
  have no : ∀ i, i ≤ P → i ∉ F := fun i hi hm => by have := hF i hm; omega
  exact ⟨⟨q.H0, q.S.frame (f.get r (by omega) (no r (by omega))), f1, (f.get z (by omega) (no z (by omega))).trans q.gz, (f.get P h4 (no P (Nat.le_refl _))).trans q.g, Nat.lt_of_lt_of_le h4 f.n, q.hz, q.zP⟩, f2⟩
theorem z_lt (q : QS h0 h r v t st z P oz o) : z < h.n := by have := q.lt; have := q.zP; omega
end QS

def pinsR (t : List Int) (a b c d : Nat) (p : Nat) : PR PIns := (pword t p).bind fun imm p => (pnum t 24 16 p).bind fun n p => (plist (pnum t 65535 1) n p).bind fun li p => .ok ⟨a, b, c, d, imm, asK li⟩ p
theorem pins_eq (t : List Int) (p : Nat) : pins t p = (pnum t 65535 1 p).bind fun a p => (pnum t 65535 1 p).bind fun b p => (pnum t 65535 1 p).bind fun c p => (pnum t 65535 1 p).bind fun d p => pinsR t a b c d p := by
  unfold pins pinsR
  simp only [plist, PR.bind_bind, PR.ok_bind]
  rfl

def ZI (m : Nat) (x : AVal) (h' : AHeap) : Prop := ∃ row, x = .agg row ∧ row.length = m ∧ row.all (·.cell) = true
abbrev RIN (h : AHeap) (x : AVal) (h' : AHeap) (i : PIns) : Prop := ∃ row, x = .agg row ∧ row.length = 6 ∧ row.all (·.cell) = true ∧ ∀ M : List Nat, (∀ j, j ∈ M → j < h.n) → InsS (h'.masks M) i row
abbrev zeroI : AObj := .cells 0 false [.int .i64 0, .int .i64 0, .int .i64 0, .int .i64 0, .int .u64 0, .nils]

set_option maxHeartbeats 2000000 in
theorem qins {h : AHeap} {r : Nat} {v : AVal} {t : List Int} (H : RfOk h r v t) {st : PR Unit} (S : RfSt h r v t.length st) :
    CallP AP 44 [.ptr r 0 0] h (RR h r v t.length (RIN h) (ZI 6) (st.bind fun _ p => pins t p)) := by
  refine callP (rfl : Tr.get AP 44 = some A44) ?_
  obtain ⟨G, hG⟩ : ∃ G, G = st.bind fun _ p => pins t p := ⟨_, rfl⟩
  rw [← hG]
  generalize hQ : RR h r v t.length (RIN h) (ZI 6) G = Q
  have hlt := H.lt
  simp only [pins_eq] at hG
  simp -implicitDefEqProofs (disch := first | decide | assumption | omega | (simp -implicitDefEqProofs only [AM.RN]; first | done | omega) | fail) only [↓AM.R0, AM.R1, AM.R2, Nat.reduceAdd, Nat.reduceLeDiff, Nat.reduceEqDiff, Int.reduceToNat, Nat.reduceLT, ↓reduceIte, Int.reduceEq, Int.reduceLT, Int.reduceLE]
  have q0 : QS h ((h.push zeroI).push zeroI) r v t st h.n (h.n + 1) zeroI zeroI := by
    have f0 := HFrame.refl (h := h) (F := [r]) (by simpa using hlt)
    exact ⟨H, S.frame (by rw [AHeap.get_push_ne _ _ (by simp; omega), AHeap.get_push_ne _ _ (by omega)]), (f0.pushTmp _).pushTmp _, by rw [AHeap.get_push_ne _ _ (by simp)]; exact AHeap.get_push_same _ _, AHeap.get_push_same _ _, by simp, Nat.le_refl _, by omega⟩
  generalize (h.push zeroI).push zeroI = hB at *
  refine AM.callI_of (qnum q0.ok q0.S 65535 1 (by omega) (by decide)) ?_
  rintro x h1 R
  obtain ⟨a, st1, rfl, f1, S1, hG, ha, k1⟩ := chI hG R
  clear R
  have q1 := q0.call f1 S1
  have g1 := q1.g
  have n1 := q1.lt
  simp -implicitDefEqProofs (disch := first | decide | assumption | omega | (simp -implicitDefEqProofs only [AM.RN]; first | done | omega) | fail) only [↓AM.R0, AM.R1, AM.R2, Nat.reduceAdd, Nat.reduceLeDiff, Nat.reduceEqDiff, Int.reduceToNat, Nat.reduceLT, ↓reduceIte, Int.reduceEq, Int.reduceLT, Int.reduceLE, g1]
  have q1 := q1.set (.cells 0 false [.int .i64 a, .int .i64 0, .int .i64 0, .int .i64 0, .int .u64 0, .nils])
  refine AM.callI_of (qnum q1.ok q1.S 65535 1 (by omega) (by decide)) ?_
  rintro x h2 R
  obtain ⟨b, st2, rfl, f2, S2, hG, hb, k2⟩ := chI hG R
  clear R
  have q2 := q1.call f2 S2
  have g2 := q2.g
  have n2 := q2.lt
  simp -implicitDefEqProofs (disch := first | decide | assumption | omega | (simp -implicitDefEqProofs only [AM.RN]; first | done | omega) | fail) only [↓AM.R0, AM.R1, AM.R2, Nat.reduceAdd, Nat.reduceLeDiff, Nat.reduceEqDiff, Int.reduceToNat, Nat.reduceLT, ↓reduceIte, Int.reduceEq, Int.reduceLT, Int.reduceLE, g2]
  have q2 := q2.set (.cells 0 false [.int .i64 a, .int .i64 b, .int .i64 0, .int .i64 0, .int .u64 0, .nils])
  refine AM.callI_of (qnum q2.ok q2.S 65535 1 (by omega) (by decide)) ?_
  rintro x h3 R
  obtain ⟨c, st3, rfl, f3, S3, hG, hc, k3⟩ := chI hG R
  clear R
  have q3 := q2.call f3 S3
  have g3 := q3.g
  have n3 := q3.lt
  simp -implicitDefEqProofs (disch := first | decide | assumption | omega | (simp -implicitDefEqProofs only [AM.RN]; first | done | omega) | fail) only [↓AM.R0, AM.R1, AM.R2, Nat.reduceAdd, Nat.reduceLeDiff, Nat.reduceEqDiff, Int.reduceToNat, Nat.reduceLT, ↓reduceIte, Int.reduceEq, Int.reduceLT, Int.reduceLE, g3]
  have q3 := q3.set (.cells 0 false [.int .i64 a, .int .i64 b, .int .i64 c, .int .i64 0, .int .u64 0, .nils])
  refine AM.callI_of (qnum q3.ok q3.S 65535 1 (by omega) (by decide)) ?_
  rintro x h4 R
  obtain ⟨d, st4, rfl, f4, S4, hG, hd, k4⟩ := chI hG R
  clear R
  have q4 := q3.call f4 S4
  have g4 := q4.g
  have n4 := q4.lt
  simp -implicitDefEqProofs (disch := first | decide | assumption | omega | (simp -implicitDefEqProofs only [AM.RN]; first | done | omega) | fail) only [↓AM.R0, AM.R1, AM.R2, Nat.reduceAdd, Nat.reduceLeDiff, Nat.reduceEqDiff, Int.reduceToNat, Nat.reduceLT, ↓reduceIte, Int.reduceEq, Int.reduceLT, Int.reduceLE, g4]
  have q4 := q4.set (.cells 0 false [.int .i64 a, .int .i64 b, .int .i64 c, .int .i64 d, .int .u64 0, .nils])
  simp only [pinsR] at hG
  refine AM.callI_of (qword q4.ok q4.S) ?_
  rintro x h5 R
  obtain ⟨imm, st5, rfl, f5, S5, hG, him, k5⟩ := chN (mk := fun n => .int .u64 n) (Pm := fun n => n < 18446744073709551616) (by decide) hG R
  clear R
  have q5 := q4.call f5 S5
  have g5 := q5.g
  have n5 := q5.lt
  simp -implicitDefEqProofs (disch := first | decide | assumption | omega | (simp -implicitDefEqProofs only [AM.RN]; first | done | omega) | fail) only [↓AM.R0, AM.R1, AM.R2, Nat.reduceAdd, Nat.reduceLeDiff, Nat.reduceEqDiff, Int.reduceToNat, Nat.reduceLT, ↓reduceIte, Int.reduceEq, Int.reduceLT, Int.reduceLE, g5]
  have q5 := q5.set (.cells 0 false [.int .i64 a, .int .i64 b, .int .i64 c, .int .i64 d, .int .u64 imm, .nils])
  refine AM.callI_of (qnum q5.ok q5.S 24 16 (by omega) (by decide)) ?_
  rintro x h6 R
  obtain ⟨n, st6, rfl, f6, S6, hG, hn, k6⟩ := chI hG R
  clear R
  have q6 := q5.call f6 S6
  clear q0 q1 q2 q3 q4 q5 g1 g2 g3 g4 g5 n1 n2 n3 n4 n5 f1 f2 f3 f4 f5 f6
  simp -implicitDefEqProofs (disch := first | decide | assumption | omega | (simp -implicitDefEqProofs only [AM.RN]; first | done | omega) | fail) only [↓AM.R0, AM.R1, AM.R2, Nat.reduceAdd, Nat.reduceLeDiff, Nat.reduceEqDiff, Int.reduceToNat, Nat.reduceLT, ↓reduceIte, Int.reduceEq, Int.reduceLT, Int.reduceLE]
  refine AM.loopI_of (fun k e h' => ∃ (l : List Nat) (st' : PR Unit) (lv : AVal) (F : List Nat), k + l.length = n ∧ e.val 0 = .ptr r 0 0 ∧ e.val 2 = .ptr h.n 0 0 ∧ e.val 3 = .ptr (h.n + 1) 0 0 ∧ e.val 4 = .int .i64 n ∧ e.val 5 = .int .i64 l.length ∧
    QS h h' r v t st' h.n (h.n + 1) zeroI (.cells 0 false [.int .i64 a, .int .i64 b, .int .i64 c, .int .i64 d, .int .u64 imm, lv]) ∧
    SlOf h' 1 encK lv (asK l) F ∧ (∀ j, j ∈ F → h.n + 1 < j) ∧ (∀ q, st' = .ok () q → ∃ q0, st6 = .ok () q0) ∧ G = st'.bind fun _ q => (plist (pnum t 65535 1) k q).bind fun l2 p => .ok ⟨a, b, c, d, imm, asK (l ++ l2)⟩ p) n ?_ ?_
  · have hF0 : ∀ j, j ∈ ([] : List Nat) → h.n + 1 < j := fun j hj => nomatch hj
    refine ⟨[], st6, .nils, [], ?_⟩
    simp -implicitDefEqProofs (disch := first | decide | assumption | omega | (simp -implicitDefEqProofs only [AM.RN]; first | done | omega) | fail) only [↓AM.R0, AM.R1, AM.R2, Nat.reduceAdd, Nat.reduceLeDiff, Nat.reduceEqDiff, Int.reduceToNat, Nat.reduceLT, ↓reduceIte, Int.reduceEq, Int.reduceLT, Int.reduceLE]
    and_intros <;> first | omega | exact SlOf.nil | exact hF0 | exact q6 | exact hG | exact (fun q e => ⟨q, e⟩) | rfl
  · rintro k e h' ⟨l, st', lv, F, hk, e0, e2, e3, e4, e5, q, hs, hF, hok, hG⟩
    have bo := hs.beq
    obtain ⟨d1, d2⟩ := hs.rd.cells
    have g := q.g
    have gz := q.gz
    have nq := q.lt
    have S' := q.S
    have nr := q.ok.lt
    cases st' with
    | bad e2' q2 =>
      obtain ⟨he, p3, hg3, hp3⟩ := S'
      simp -implicitDefEqProofs (disch := first | decide | assumption | omega | (simp -implicitDefEqProofs only [AM.RN]; first | done | omega) | fail) only [AM.RGB, ↓AM.R0, AM.R1, AM.R2, Nat.reduceAdd, Nat.reduceLeDiff, Nat.reduceEqDiff, Int.reduceToNat, Nat.reduceLT, ↓reduceIte, Int.reduceEq, Int.reduceLT, Int.reduceLE, e0, e2, e3, e4, e5, hg3, he, g, gz, d2]
      subst hQ
      rw [hG, PR.bad_bind]
      refine ⟨q.f.setTmp (by omega) _, RfSt.frame q.S (AHeap.get_set_ne _ _ (by omega)), _, rfl, rfl, by simp only [List.all_cons, d2, AM.cell_int, List.all_nil, Bool.and_self]⟩
    | ok _ q1 =>
      obtain ⟨hg3, hp3⟩ := S'
      simp -implicitDefEqProofs (disch := first | decide | assumption | omega | (simp -implicitDefEqProofs only [AM.RN]; first | done | omega) | fail) only [AM.RGB, ↓AM.R0, AM.R1, AM.R2, Nat.reduceAdd, Nat.reduceLeDiff, Nat.reduceEqDiff, Int.reduceToNat, Nat.reduceLT, ↓reduceIte, Int.reduceEq, Int.reduceLT, Int.reduceLE, e0, e2, e3, e4, e5, hg3]
      refine AM.cI_bool (fun hb => ?_) (fun hb => ?_)
      · simp only [decide_eq_true_eq] at hb
        obtain ⟨k, rfl⟩ : ∃ m, k = m + 1 := ⟨k - 1, by omega⟩
        have hw : IntKind.i64.wrap ((l.length : Int) + 1) = ((l.length + 1 : Nat) : Int) := wrap64 (by omega) (by omega)
        simp -implicitDefEqProofs (disch := first | decide | assumption | omega | (simp -implicitDefEqProofs only [AM.RN]; first | done | omega) | fail) only [↓AM.R0, AM.R1, AM.R2, Nat.reduceAdd, Nat.reduceLeDiff, Nat.reduceEqDiff, Int.reduceToNat, Nat.reduceLT, ↓reduceIte, Int.reduceEq, Int.reduceLT, Int.reduceLE, e0, e2, e3, e4, e5, g]
        refine AM.trCall_of (qnum q.ok q.S 65535 1 (by omega) (by decide)) ?_
        rintro x h3 R
        simp only [plist_succ, PR.bind_bind, PR.ok_bind] at hG
        obtain ⟨m, st3, rfl, f3, S3, hG, hm, k3⟩ := chI (st := .ok () q1) (rest := fun m p => (plist (pnum t 65535 1) k p).bind fun l2 p => .ok (PIns.mk a b c d imm (asK (l ++ m :: l2))) p) hG R
        clear R
        have q3 := q.call f3 S3
        have hrF : r ∉ F := fun hm => by have := hF r hm; have := q.rz; omega
        have hs3 := hs.frame f3.n fun j hj => f3.get j (hs.lt j hj) (by simp; intro e; exact hrF (e ▸ hj))
        have g3 := q3.g
        have n3 := q3.lt
        simp -implicitDefEqProofs (disch := first | decide | assumption | omega | (simp -implicitDefEqProofs only [AM.RN]; first | done | omega) | fail) only [↓AM.R0, AM.R1, AM.R2, Nat.reduceAdd, Nat.reduceLeDiff, Nat.reduceEqDiff, Int.reduceToNat, Nat.reduceLT, ↓reduceIte, Int.reduceEq, Int.reduceLT, Int.reduceLE, e0, e2, e3, e4, e5]
        refine AM.trOp_of (hs3.app1 (fun _ => rfl) (fun _ => rfl) (by simp; omega) (m : Int) fun v' h4 F4 s4 f4 => ?_)
        obtain ⟨c1, c2⟩ := s4.rd.cells
        obtain ⟨q4, hF4⟩ := q3.tmp f4 hF
        have g4 := q4.g
        have n4 := q4.lt
        simp -implicitDefEqProofs (disch := first | decide | assumption | omega | (simp -implicitDefEqProofs only [AM.RN]; first | done | omega) | fail) only [↓AM.R0, AM.R1, AM.R2, Nat.reduceAdd, Nat.reduceLeDiff, Nat.reduceEqDiff, Int.reduceToNat, Nat.reduceLT, ↓reduceIte, Int.reduceEq, Int.reduceLT, Int.reduceLE, e0, e2, e3, e4, e5, g4, g3, g, bo, c1, c2, hw]
        have q5 := q4.set (.cells 0 false [.int .i64 a, .int .i64 b, .int .i64 c, .int .i64 d, .int .u64 imm, v'])
        have s5 : SlOf (h4.set (h.n + 1) (.cells 0 false [.int .i64 a, .int .i64 b, .int .i64 c, .int .i64 d, .int .u64 imm, v'])) 1 encK v' (asK (l ++ [m])) F4 := by
          rw [show asK (l ++ [m]) = asK l ++ [(m : Int)] by simp [asK]]
          exact s4.set (fun hm => by have := hF4 _ hm; omega) _
        have hG' : G = st3.bind fun _ q => (plist (pnum t 65535 1) k q).bind fun l2 p => .ok ⟨a, b, c, d, imm, asK ((l ++ [m]) ++ l2)⟩ p := by
          rw [hG]; simp only [List.append_assoc, List.cons_append, List.nil_append]
        have hok' : ∀ q, st3 = .ok () q → ∃ q0, st6 = .ok () q0 := fun q e => hok _ rfl
        refine ⟨k, by omega, l ++ [m], st3, v', F4, ?_⟩
        rw [List.length_append, List.length_cons, List.length_nil]
        and_intros <;> first | omega | exact q5 | exact s5 | exact hF4 | exact hok' | exact hG' | rfl
      · simp only [decide_eq_false_iff_not] at hb
        have hk0 : k = 0 := by omega
        subst hk0
        simp only [plist_zero, PR.ok_bind, List.append_nil] at hG
        simp -implicitDefEqProofs (disch := first | decide | assumption | omega | (simp -implicitDefEqProofs only [AM.RN]; first | done | omega) | fail) only [↓AM.R0, AM.R1, AM.R2, Nat.reduceAdd, Nat.reduceLeDiff, Nat.reduceEqDiff, Int.reduceToNat, Nat.reduceLT, ↓reduceIte, Int.reduceEq, Int.reduceLT, Int.reduceLE, e0, e2, e3, g, gz, d2]
        subst hQ
        rw [hG]
        refine ⟨q.f.setTmp (by omega) _, RfSt.frame q.S (AHeap.get_set_ne _ _ (by omega)), _, rfl, rfl, by simp only [List.all_cons, d2, AM.cell_int, List.all_nil, Bool.and_self], fun M hM => ⟨by simp only; omega, lv, rfl, ((hs.set (fun hm => by have := hF _ hm; omega) _).masks fun j hj hm => by have h1 := hM j hm; have h2 := hF j hj; omega).rd⟩⟩
end Go.Proofs.Ytfagngiceofoeaa.Cd

namespace Go.Proofs.Ytfagngiceofoeaa.Cd
open Go Go.AM Go.Proofs.Ytfagngiceofoeaa.AmGC
attribute [local irreducible] AM.wp AM.wpIs AM.wpTr AM.opI AM.gI AM.cI AM.trI AM.callI AM.fnI AM.trG AM.trOp AM.trCall AM.seqC AM.loopI
set_option maxRecDepth 100000
set_option linter.unusedVariables false
set_option linter.unusedSimpArgs false

theorem mSet {h : AHeap} {K : List Nat} {P : Nat} (hP : P ∈ K) (o : AObj) : (h.masks K).n ≤ ((h.set P o).masks K).n ∧ ∀ j, j < (h.masks K).n → ((h.set P o).masks K).get j = (h.masks K).get j := by
  rw [AHeap.n_masks, AHeap.n_masks]
  refine ⟨Nat.le_refl _, fun j hj => ?_⟩
  rw [AHeap.get_masks, AHeap.get_masks]
  by_cases e : j ∈ K
  · rw [if_pos e, if_pos e]
  · rw [if_neg e, if_neg e]; exact AHeap.get_set_ne _ _ (by intro q; rw [q] at e; exact e hP)
theorem mCall {h h' : AHeap} {K : List Nat} {r : Nat} {F' : List Nat} (f : HFrame h h' [r] F') (hr : r ∈ K) : (h.masks K).n ≤ (h'.masks K).n ∧ ∀ j, j < (h.masks K).n → (h'.masks K).get j = (h.masks K).get j :=
  f.masks (M := K) (by simpa using hr)
theorem ZK.of {x : AVal} {h h' : AHeap} {lim : Nat} {l : List Nat} (z : ZK x h' ∨ RKN h lim x h' l) : x.cells = [x] ∧ x.cell = true := by
  rcases z with z | ⟨z, _⟩
  · exact z
  · exact (z [] (by simp)).cells
theorem ZI.of {x : AVal} {h h' : AHeap} {i : PIns} (z : ZI 6 x h' ∨ RIN h x h' i) : ∃ row, x = .agg row ∧ row.length = 6 ∧ row.all (·.cell) = true := by
  rcases z with z | ⟨row, a, b, c, _⟩
  · exact z
  · exact ⟨row, a, b, c⟩

abbrev RFN (M0 : List Nat) (x : AVal) (h' : AHeap) (f : PFunc) : Prop := ∃ row, x = .agg row ∧ row.length = 4 ∧ row.all (·.cell) = true ∧ FuncS (h'.masks M0) f row
abbrev zeroF : AObj := .cells 0 false [.int .i64 0, .nils, .nils, .nils]

set_option maxHeartbeats 4000000 in
theorem qfun {h : AHeap} {r : Nat} {v : AVal} {t : List Int} (H : RfOk h r v t) {st : PR Unit} (S : RfSt h r v t.length st) (M0 : List Nat) (hM00 : ∀ j, j ∈ M0 → j < h.n) :
    CallP AP 32 [.ptr r 0 0] h (RR h r v t.length (RFN M0) (ZI 4) (st.bind fun _ p => pfunc t p)) := by
  refine callP (rfl : Tr.get AP 32 = some A32) ?_
  obtain ⟨G, hG⟩ : ∃ G, G = st.bind fun _ p => pfunc t p := ⟨_, rfl⟩
  rw [← hG]
  generalize hQ : RR h r v t.length (RFN M0) (ZI 4) G = Q
  have hlt := H.lt
  obtain ⟨K, hKe⟩ : ∃ K, K = r :: (h.n + 1) :: h.n :: M0 := ⟨_, rfl⟩
  have hKr : r ∈ K := by rw [hKe]; simp
  have hK1 : h.n + 1 ∈ K := by rw [hKe]; simp
  have hK0 : h.n ∈ K := by rw [hKe]; simp
  have hKM : ∀ j, j ∈ M0 → j ∈ K := fun j hj => by rw [hKe]; simp [hj]
  have hKlt : ∀ j, j ∈ K → j < h.n + 2 := fun j hj => by
    rw [hKe] at hj
    simp only [List.mem_cons] at hj
    rcases hj with e | e | e | e
    · omega
    · omega
    · omega
    · have := hM00 j e; omega
  clear hKe
  unfold pfunc at hG
  simp -implicitDefEqProofs (disch := first | decide | assumption | omega | (simp -implicitDefEqProofs only [AM.RN]; first | done | omega) | fail) only [↓AM.R0, AM.R1, AM.R2, Nat.reduceAdd, Nat.reduceLeDiff, Nat.reduceEqDiff, Int.reduceToNat, Nat.reduceLT, ↓reduceIte, Int.reduceEq, Int.reduceLT, Int.reduceLE]
  have q0 : QS h ((h.push zeroF).push zeroF) r v t st h.n (h.n + 1) zeroF zeroF := by
    have f0 := HFrame.refl (h := h) (F := [r]) (by simpa using hlt)
    exact ⟨H, S.frame (by rw [AHeap.get_push_ne _ _ (by simp; omega), AHeap.get_push_ne _ _ (by omega)]), (f0.pushTmp _).pushTmp _, by rw [AHeap.get_push_ne _ _ (by simp)]; exact AHeap.get_push_same _ _, AHeap.get_push_same _ _, by simp, Nat.le_refl _, by omega⟩
  generalize (h.push zeroF).push zeroF = hB at *
  have hKq : ∀ {h' : AHeap} {st' : PR Unit} {o : AObj}, QS h h' r v t st' h.n (h.n + 1) zeroF o → ∀ j, j ∈ K → j < h'.n := fun q j hj => by have := hKlt j hj; have := q.lt; omega
  refine AM.callI_of (qnum q0.ok q0.S 65535 1 (by omega) (by decide)) ?_
  rintro x h1 R
  obtain ⟨a, st1, rfl, f1, S1, hG, ha, k1⟩ := chI hG R
  clear R
  have q1 := q0.call f1 S1
  have g1 := q1.g
  have n1 := q1.lt
  simp -implicitDefEqProofs (disch := first | decide | assumption | omega | (simp -implicitDefEqProofs only [AM.RN]; first | done | omega) | fail) only [↓AM.R0, AM.R1, AM.R2, Nat.reduceAdd, Nat.reduceLeDiff, Nat.reduceEqDiff, Int.reduceToNat, Nat.reduceLT, ↓reduceIte, Int.reduceEq, Int.reduceLT, Int.reduceLE, g1]
  have q1 := q1.set (.cells 0 false [.int .i64 a, .nils, .nils, .nils])
  refine AM.callI_of (qkinds q1.ok q1.S 32 (by omega)) ?_
  rintro sv h2 R
  obtain ⟨sl, st2, z2, ok2, f2, S2, hG, k2⟩ := chV [] hG R
  clear R
  have q2 := q1.call f2 S2
  have g2 := q2.g
  have n2 := q2.lt
  obtain ⟨c1, c2⟩ := ZK.of z2
  simp -implicitDefEqProofs (disch := first | decide | assumption | omega | (simp -implicitDefEqProofs only [AM.RN]; first | done | omega) | fail) only [↓AM.R0, AM.R1, AM.R2, Nat.reduceAdd, Nat.reduceLeDiff, Nat.reduceEqDiff, Int.reduceToNat, Nat.reduceLT, ↓reduceIte, Int.reduceEq, Int.reduceLT, Int.reduceLE, g2, c1, c2]
  have s2 : ∀ q, st2 = .ok () q → SlRd ((h2.set (h.n + 1) (.cells 0 false [.int .i64 a, sv, .nils, .nils])).masks K) 1 encK sv (asK sl) := fun q e => by
    have m := mSet (h := h2) hK1 (.cells 0 false [.int .i64 a, sv, .nils, .nils])
    exact SlRd.mono' m.1 m.2 ((ok2 q e).1 K (hKq q1))
  have q2 := q2.set (.cells 0 false [.int .i64 a, sv, .nils, .nils])
  refine AM.callI_of (qkinds q2.ok q2.S 32 (by omega)) ?_
  rintro rv h3 R
  obtain ⟨rl, st3, z3, ok3, f3, S3, hG, k3⟩ := chV [] hG R
  clear R
  have q3 := q2.call f3 S3
  have g3 := q3.g
  have n3 := q3.lt
  obtain ⟨c3, c4⟩ := ZK.of z3
  simp -implicitDefEqProofs (disch := first | decide | assumption | omega | (simp -implicitDefEqProofs only [AM.RN]; first | done | omega) | fail) only [↓AM.R0, AM.R1, AM.R2, Nat.reduceAdd, Nat.reduceLeDiff, Nat.reduceEqDiff, Int.reduceToNat, Nat.reduceLT, ↓reduceIte, Int.reduceEq, Int.reduceLT, Int.reduceLE, g3, c3, c4]
  have s3 : ∀ q, st3 = .ok () q → SlRd ((h3.set (h.n + 1) (.cells 0 false [.int .i64 a, sv, rv, .nils])).masks K) 1 encK sv (asK sl) ∧ SlRd ((h3.set (h.n + 1) (.cells 0 false [.int .i64 a, sv, rv, .nils])).masks K) 1 encK rv (asK rl) := fun q e => by
    have m0 := mCall (K := K) f3 hKr
    have m := mSet (h := h3) hK1 (.cells 0 false [.int .i64 a, sv, rv, .nils])
    obtain ⟨q0, e0⟩ := k3 q e
    exact ⟨SlRd.mono' m.1 m.2 (SlRd.mono' m0.1 m0.2 (s2 q0 e0)), SlRd.mono' m.1 m.2 ((ok3 q e).1 K (hKq q2))⟩
  have q3 := q3.set (.cells 0 false [.int .i64 a, sv, rv, .nils])
  refine AM.callI_of (qnum q3.ok q3.S 256 16 (by omega) (by decide)) ?_
  rintro x hL R
  obtain ⟨n, st4, rfl, f4, S4, hG, hn, k4⟩ := chI hG R
  clear R
  have qL := q3.call f4 S4
  have s4 : ∀ q, st4 = .ok () q → SlRd (hL.masks K) 1 encK sv (asK sl) ∧ SlRd (hL.masks K) 1 encK rv (asK rl) := fun q e => by
    have m0 := mCall (K := K) f4 hKr
    obtain ⟨q0, e0⟩ := k4 q e
    obtain ⟨a1, a2⟩ := s3 q0 e0
    exact ⟨SlRd.mono' m0.1 m0.2 a1, SlRd.mono' m0.1 m0.2 a2⟩
  have hKL := hKq qL
  clear q0 q1 q2 q3 g1 g2 g3 n1 n2 n3 f1 f2 f3 f4 s2 s3 ok2 ok3 z2 z3
  simp -implicitDefEqProofs (disch := first | decide | assumption | omega | (simp -implicitDefEqProofs only [AM.RN]; first | done | omega) | fail) only [↓AM.R0, AM.R1, AM.R2, Nat.reduceAdd, Nat.reduceLeDiff, Nat.reduceEqDiff, Int.reduceToNat, Nat.reduceLT, ↓reduceIte, Int.reduceEq, Int.reduceLT, Int.reduceLE]
  refine AM.loopI_of (fun k e h' => ∃ (l : List PIns) (st' : PR Unit) (lv : AVal) (F M : List Nat), k + l.length = n ∧ e.val 0 = .ptr r 0 0 ∧ e.val 2 = .ptr h.n 0 0 ∧ e.val 3 = .ptr (h.n + 1) 0 0 ∧ e.val 4 = .int .i64 n ∧ e.val 5 = .int .i64 l.length ∧
    QS h h' r v t st' h.n (h.n + 1) zeroF (.cells 0 false [.int .i64 a, sv, rv, lv]) ∧ HFrame hL h' [r, h.n + 1] [r, h.n + 1] ∧
    RowsOf h' 6 (fun i row => (∃ q, st' = .ok () q) → InsS (h'.masks M) i row) lv l F ∧ (∀ j, j ∈ F → hL.n ≤ j) ∧ (∀ j, j ∈ K ++ F → j ∈ M) ∧ (∀ j, j ∈ M → j < h'.n) ∧ (∀ q, st' = .ok () q → ∃ q0, st4 = .ok () q0) ∧
    G = st'.bind fun _ q => (plist (pins t) k q).bind fun l2 p => .ok ⟨a, asK sl, asK rl, l ++ l2⟩ p) n ?_ ?_
  · have hF0 : ∀ j, j ∈ ([] : List Nat) → hL.n ≤ j := fun j hj => nomatch hj
    have hFM0 : ∀ j, j ∈ K ++ ([] : List Nat) → j ∈ K := fun j hj => by simpa using hj
    have fL : HFrame hL hL [r, h.n + 1] [r, h.n + 1] := HFrame.refl (fun j hj => by simp only [List.mem_cons, List.not_mem_nil, or_false] at hj; have := qL.lt; have := qL.rz; have := qL.zP; omega)
    refine ⟨[], st4, .nils, [], K, ?_⟩
    simp -implicitDefEqProofs (disch := first | decide | assumption | omega | (simp -implicitDefEqProofs only [AM.RN]; first | done | omega) | fail) only [↓AM.R0, AM.R1, AM.R2, Nat.reduceAdd, Nat.reduceLeDiff, Nat.reduceEqDiff, Int.reduceToNat, Nat.reduceLT, ↓reduceIte, Int.reduceEq, Int.reduceLT, Int.reduceLE]
    and_intros <;> first | omega | exact (fun j hj => hj) | exact RowsOf.nil | exact hF0 | exact hFM0 | exact hKL | exact qL | exact fL | exact hG | exact (fun q e => ⟨q, e⟩) | rfl
  · rintro k e h' ⟨l, st', lv, F, M, hk, e0, e2, e3, e4, e5, q, fX, hs, hF, hFM, hM, hok, hG⟩
    have bo := hs.beq
    obtain ⟨d1, d2⟩ := hs.cells
    have g := q.g
    have gz := q.gz
    have nq := q.lt
    have S' := q.S
    have nr := q.ok.lt
    have nX := fX.n
    have nL := qL.lt
    have hrz := q.rz
    have hrF : r ∉ F := fun hm => by have := hF r hm; omega
    have hPF : h.n + 1 ∉ F := fun hm => by have := hF _ hm; omega
    have hzF : h.n ∉ F := fun hm => by have := hF _ hm; omega
    cases st' with
    | bad e2' q2 =>
      obtain ⟨he, p3, hg3, hp3⟩ := S'
      simp -implicitDefEqProofs (disch := first | decide | assumption | omega | (simp -implicitDefEqProofs only [AM.RN]; first | done | omega) | fail) only [AM.RGB, ↓AM.R0, AM.R1, AM.R2, Nat.reduceAdd, Nat.reduceLeDiff, Nat.reduceEqDiff, Int.reduceToNat, Nat.reduceLT, ↓reduceIte, Int.reduceEq, Int.reduceLT, Int.reduceLE, e0, e2, e3, e4, e5, hg3, he, g, gz, d2, c2, c4]
      subst hQ
      rw [hG, PR.bad_bind]
      refine ⟨q.f.setTmp (by omega) _, RfSt.frame q.S (AHeap.get_set_ne _ _ (by omega)), _, rfl, rfl, by simp only [List.all_cons, d2, c2, c4, AM.cell_int, List.all_nil, Bool.and_self]⟩
    | ok _ q1 =>
      obtain ⟨hg3, hp3⟩ := S'
      simp -implicitDefEqProofs (disch := first | decide | assumption | omega | (simp -implicitDefEqProofs only [AM.RN]; first | done | omega) | fail) only [AM.RGB, ↓AM.R0, AM.R1, AM.R2, Nat.reduceAdd, Nat.reduceLeDiff, Nat.reduceEqDiff, Int.reduceToNat, Nat.reduceLT, ↓reduceIte, Int.reduceEq, Int.reduceLT, Int.reduceLE, e0, e2, e3, e4, e5, hg3]
      refine AM.cI_bool (fun hb => ?_) (fun hb => ?_)
      · simp only [decide_eq_true_eq] at hb
        obtain ⟨k, rfl⟩ : ∃ m, k = m + 1 := ⟨k - 1, by omega⟩
        have hw : IntKind.i64.wrap ((l.length : Int) + 1) = ((l.length + 1 : Nat) : Int) := wrap64 (by omega) (by omega)
        simp -implicitDefEqProofs (disch := first | decide | assumption | omega | (simp -implicitDefEqProofs only [AM.RN]; first | done | omega) | fail) only [↓AM.R0, AM.R1, AM.R2, Nat.reduceAdd, Nat.reduceLeDiff, Nat.reduceEqDiff, Int.reduceToNat, Nat.reduceLT, ↓reduceIte, Int.reduceEq, Int.reduceLT, Int.reduceLE, e0, e2, e3, e4, e5, g]
        refine AM.trCall_of (qins q.ok q.S) ?_
        rintro x h3 R
        simp only [plist_succ, PR.bind_bind, PR.ok_bind] at hG
        obtain ⟨m, st3, z3, ok3, f3, S3, hG, k3⟩ := chV (st := .ok () q1) (rest := fun m p => (plist (pins t) k p).bind fun l2 p => .ok (PFunc.mk a (asK sl) (asK rl) (l ++ m :: l2)) p) ⟨0, 0, 0, 0, 0, []⟩ hG R
        clear R
        obtain ⟨row, rfl, hr1, hr2⟩ := ZI.of z3
        have q3 := q.call f3 S3
        have ma := mCall (K := M) f3 (hFM r (by simp [hKr]))
        have hs3 := (hs.frame f3.n fun j hj => f3.get j (hs.lt j hj) (by simp; intro e; exact hrF (e ▸ hj))).monoR (R' := fun i row => (∃ q, st3 = .ok () q) → InsS (h3.masks M) i row) (fun a row w hx => InsS.mono ma.1 ma.2 (w ⟨q1, rfl⟩))
        have g3 := q3.g
        have n3 := q3.lt
        have hrow : (∃ q, st3 = .ok () q) → InsS (h3.masks M) m row := fun ⟨q, e⟩ => by
          obtain ⟨row', e1, _, _, w⟩ := ok3 q e
          cases e1
          exact w M hM
        simp -implicitDefEqProofs (disch := first | decide | assumption | omega | (simp -implicitDefEqProofs only [AM.RN]; first | done | omega) | fail) only [↓AM.R0, AM.R1, AM.R2, Nat.reduceAdd, Nat.reduceLeDiff, Nat.reduceEqDiff, Int.reduceToNat, Nat.reduceLT, ↓reduceIte, Int.reduceEq, Int.reduceLT, Int.reduceLE, e0, e2, e3, e4, e5, hr1, hr2]
        refine AM.trOp_of (hs3.app1 (a := m) (by omega) hr1 hr2 hrow fun v' h4 F4 s4' f4 => ?_)
        obtain ⟨c1', c2'⟩ := s4'.cells
        have q4 : QS h h4 r v t st3 h.n (h.n + 1) zeroF (.cells 0 false [.int .i64 a, sv, rv, lv]) := ((q3.tmp f4 (fun j hj => by have := hF j hj; omega))).1
        have g4 := q4.g
        have n4 := q4.lt
        have n34 := f4.n
        have n33 := f3.n
        simp -implicitDefEqProofs (disch := first | decide | assumption | omega | (simp -implicitDefEqProofs only [AM.RN]; first | done | omega) | fail) only [↓AM.R0, AM.R1, AM.R2, Nat.reduceAdd, Nat.reduceLeDiff, Nat.reduceEqDiff, Int.reduceToNat, Nat.reduceLT, ↓reduceIte, Int.reduceEq, Int.reduceLT, Int.reduceLE, e0, e2, e3, e4, e5, g4, g3, g, bo, c1', c2', hw]
        have q5 := q4.set (.cells 0 false [.int .i64 a, sv, rv, v'])
        obtain ⟨fX4, hF4⟩ := tmpF (n := hL.n) (frW fX f3 (by simp)) f4 (Nat.le_refl _) (by omega) hF
        have fX5 := frS fX4 (i := h.n + 1) (by simp) (.cells 0 false [.int .i64 a, sv, rv, v'])
        have mu := masks_step (h := h3) (h' := h4.set (h.n + 1) (.cells 0 false [.int .i64 a, sv, rv, v'])) (N := F4) (M := M) (by simpa using f4.n)
          (fun j hj hm => by
            rw [AHeap.get_set_ne _ _ (by intro e; rw [e] at hm; exact hm (hFM _ (by simp [hK1])))]
            exact f4.get j hj fun hq => hm (hFM j (List.mem_append_right _ hq)))
          (fun j hj => by
            rcases f4.new j hj with e | e
            · exact .inl (hFM j (List.mem_append_right _ e))
            · exact .inr e)
        have s5 : RowsOf (h4.set (h.n + 1) (.cells 0 false [.int .i64 a, sv, rv, v'])) 6 (fun i row => (∃ q, st3 = .ok () q) → InsS ((h4.set (h.n + 1) (.cells 0 false [.int .i64 a, sv, rv, v'])).masks (F4 ++ M)) i row) v' (l ++ [m]) F4 :=
          (s4'.set (fun hm => by have := hF4 _ hm; omega) _).monoR (fun a row w hx => InsS.mono mu.1 mu.2 (w hx))
        have hFM' : ∀ j, j ∈ K ++ F4 → j ∈ F4 ++ M := fun j hj => by
          rcases List.mem_append.1 hj with e | e
          · exact List.mem_append_right _ (hFM j (List.mem_append_left _ e))
          · exact List.mem_append_left _ e
        have hM' : ∀ j, j ∈ F4 ++ M → j < h4.n := fun j hj => by
          rcases List.mem_append.1 hj with e | e
          · exact s4'.lt j e
          · have h1 := hM j e; omega
        have hG' : G = st3.bind fun _ q => (plist (pins t) k q).bind fun l2 p => .ok ⟨a, asK sl, asK rl, (l ++ [m]) ++ l2⟩ p := by
          rw [hG]; simp only [List.append_assoc, List.cons_append, List.nil_append]
        have hok' : ∀ q, st3 = .ok () q → ∃ q0, st4 = .ok () q0 := fun q e => hok _ rfl
        refine ⟨k, by omega, l ++ [m], st3, v', F4, F4 ++ M, ?_⟩
        rw [List.length_append, List.length_cons, List.length_nil]
        and_intros <;> first | omega | exact q5 | exact fX5 | exact s5 | exact hF4 | exact hFM' | exact hM' | exact hok' | exact hG' | rfl
      · simp only [decide_eq_false_iff_not] at hb
        have hk0 : k = 0 := by omega
        subst hk0
        simp only [plist_zero, PR.ok_bind, List.append_nil] at hG
        simp -implicitDefEqProofs (disch := first | decide | assumption | omega | (simp -implicitDefEqProofs only [AM.RN]; first | done | omega) | fail) only [↓AM.R0, AM.R1, AM.R2, Nat.reduceAdd, Nat.reduceLeDiff, Nat.reduceEqDiff, Int.reduceToNat, Nat.reduceLT, ↓reduceIte, Int.reduceEq, Int.reduceLT, Int.reduceLE, e0, e2, e3, g, gz, d2, c2, c4]
        subst hQ
        rw [hG]
        obtain ⟨qq, eq⟩ := hok q1 rfl
        obtain ⟨a1, a2⟩ := s4 qq eq
        have mz := masks_step (h := hL) (h' := h'.set h.n (.cells 0 false [.int .i64 a, sv, rv, lv])) (N := []) (M := K) nX (fun j hj hm => by
          rw [AHeap.get_set_ne _ _ (by intro e; rw [e] at hm; exact hm hK0)]
          exact fX.get j hj (by
            simp only [List.mem_cons, List.not_mem_nil, or_false]
            rintro (e | e) <;> rw [e] at hm
            · exact hm hKr
            · exact hm hK1)) (by simp)
        have m2 := mSet (h := h') (hFM h.n (by simp [hK0])) (.cells 0 false [.int .i64 a, sv, rv, lv])
        refine ⟨q.f.setTmp (by omega) _, RfSt.frame q.S (AHeap.get_set_ne _ _ (by omega)), _, rfl, rfl, by simp only [List.all_cons, d2, c2, c4, AM.cell_int, List.all_nil, Bool.and_self], sv, rv, lv, rfl, masks_sub hKM (SlRd.mono' mz.1 mz.2 a1), masks_sub hKM (SlRd.mono' mz.1 mz.2 a2), ?_⟩
        exact (((hs.set hzF _).masks fun j hj hm => by have h1 := hF j hj; have h2 := hM00 j hm; omega).monoR fun a row w => InsS.sub (fun j hj => hFM j (List.mem_append_left _ (hKM j hj))) (InsS.mono m2.1 m2.2 (w ⟨q1, rfl⟩))).row
end Go.Proofs.Ytfagngiceofoeaa.Cd

namespace Go.Proofs.Ytfagngiceofoeaa.Cd
open Go Go.AM Go.Proofs.Ytfagngiceofoeaa.AmGC
attribute [local irreducible] AM.wp AM.wpIs AM.wpTr AM.opI AM.gI AM.cI AM.trI AM.callI AM.fnI AM.trG AM.trOp AM.trCall AM.seqC AM.loopI
set_option maxRecDepth 100000
set_option linter.unusedVariables false
set_option linter.unusedSimpArgs false

structure Q1 (h0 h : AHeap) (r : Nat) (v : AVal) (t : List Int) (st : PR Unit) (P : Nat) (o : AObj) : Prop where
  H0 : RfOk h0 r v t
  S : RfSt h r v t.length st
  f : HFrame h0 h [r] [r]
  g : h.get P = o
  lt : P < h.n
  hz : h0.n ≤ P
namespace Q1
variable {h0 h h' : AHeap} {r : Nat} {v : AVal} {t : List Int} {st st' : PR Unit} {P : Nat} {o o' : AObj}
theorem ok (q : Q1 h0 h r v t st P o) : RfOk h r v t := q.H0.next q.f
theorem rz (q : Q1 h0 h r v t st P o) : r < P := by have := q.H0.lt; have := q.hz; omega
theorem call (q : Q1 h0 h r v t st P o) (f : HFrame h h' [r] [r]) (S : RfSt h' r v t.length st') : Q1 h0 h' r v t st' P o :=
  ⟨q.H0, S, q.f.trans f, kp f q.g q.lt (by have := q.rz; omega), Nat.lt_of_lt_of_le q.lt f.n, q.hz⟩
theorem set (q : Q1 h0 h r v t st P o) (o' : AObj) : Q1 h0 (h.set P o') r v t st P o' := by
  have h1 := q.rz; have h3 := q.hz
  exact ⟨q.H0, q.S.frame (AHeap.get_set_ne _ _ (by omega)), q.f.setTmp (by omega) _, AHeap.get_set_same _ _ _, q.lt, q.hz⟩
theorem setN (q : Q1 h0 h r v t st P o) {i : Nat} (hi : P < i) (o' : AObj) : Q1 h0 (h.set i o') r v t st P o := by
  have h1 := q.rz; have h3 := q.hz
  exact ⟨q.H0, q.S.frame (AHeap.get_set_ne _ _ (by omega)), q.f.setTmp (by omega) _, (AHeap.get_set_ne _ _ (by omega)).trans q.g, q.lt, q.hz⟩
theorem push (q : Q1 h0 h r v t st P o) (o' : AObj) : Q1 h0 (h.push o') r v t st P o := by
  have h1 := q.rz; have h3 := q.hz; have h4 := q.lt
  exact ⟨q.H0, q.S.frame (AHeap.get_push_ne _ _ (by omega)), q.f.pushTmp _, (AHeap.get_push_ne _ _ (by omega)).trans q.g, by simp; omega, q.hz⟩
theorem tmp (q : Q1 h0 h r v t st P o) {F F' : List Nat} (f : HFrame h h' F F') (hF : ∀ j, j ∈ F → P < j) : Q1 h0 h' r v t st P o ∧ ∀ j, j ∈ F' → P < j := by
  have h1 := q.rz; have h3 := q.hz; have h4 := q.lt
  obtain ⟨f1, f2⟩ := tmpF (n := P + 1) q.f f (by omega) (by omega) hF
  have no : ∀ i, i ≤ P → i ∉ F := fun i hi hm => by have := hF i hm; omega
  exact ⟨⟨q.H0, q.S.frame (f.get r (by omega) (no r (by omega))), f1, (f.get P h4 (no P (Nat.le_refl _))).trans q.g, Nat.lt_of_lt_of_le h4 f.n, q.hz⟩, f2⟩
end Q1

theorem RFN.of {M0 : List Nat} {x : AVal} {h' : AHeap} {i : PFunc} (z : ZI 4 x h' ∨ RFN M0 x h' i) : ∃ row, x = .agg row ∧ row.length = 4 ∧ row.all (·.cell) = true := by
  rcases z with z | ⟨row, a, b, c, _⟩
  · exact z
  · exact ⟨row, a, b, c⟩

set_option maxHeartbeats 4000000 in
theorem refDecode {h : AHeap} {v : AVal} {t : List Int} (L : SlIn h 1 encB v t) (hb : ∀ b, b ∈ t → 0 ≤ b ∧ b ≤ 255) (M0 : List Nat) (hM00 : ∀ j, j ∈ M0 → j < h.n) :
    CallP AP 15 [v] h fun res h' => HFrame h h' [] [] ∧ ∃ row, res = .tup [.agg row, .int .i64 (pdec t).err, .int .i64 (pdec t).pl] ∧ row.length = 3 ∧ row.all (·.cell) = true ∧ ProgS (h'.masks M0) (pdec t).prog row := by
  refine callP (rfl : Tr.get AP 15 = some A15) ?_
  generalize hQ : (fun (r : AVal) (h' : AHeap) => _) = Q
  have hl := L.len
  obtain ⟨hv1, hvc⟩ := SlIn.cells L
  have f0 := HFrame.refl (h := h) (F := []) (by simp)
  have emp : ∀ h' : AHeap, ProgS h' ⟨[], [], []⟩ [.nils, .nils, .nils] := fun h' => ⟨_, _, _, rfl, ⟨[], .inl ⟨rfl, rfl⟩, rfl, by simp⟩, .inl ⟨rfl, rfl⟩, ⟨[], .inl ⟨rfl, rfl⟩, rfl, by simp⟩⟩
  have res3 : ∀ (e : Env) (h : AHeap) (t u w : Nat) (n : Option Nat), ((resOf ⟨e, h⟩ [.cell t n, .tmp u, .tmp w]).map fun v => (v, h)) = (aop e h (.load n (.tmp t))).map fun p => (.tup [p.1, e.val u, e.val w], h) := by
    intro e h t u w n
    simp only [resOf, resVals, resVal]
    cases aop e h (.load n (.tmp t)) <;> rfl
  simp -implicitDefEqProofs (disch := first | decide | assumption | omega | (simp -implicitDefEqProofs only [AM.RN]; first | done | omega) | fail) only [↓AM.R0, AM.R1, AM.R2, Nat.reduceAdd, Nat.reduceLeDiff, Nat.reduceEqDiff, Int.reduceToNat, Nat.reduceLT, ↓reduceIte, Int.reduceEq, Int.reduceLT, Int.reduceLE, hl]
  refine AM.cI_bool (fun hc => ?_) (fun hc => ?_)
  · simp only [decide_eq_true_eq] at hc
    simp -implicitDefEqProofs (disch := first | decide | assumption | omega | (simp -implicitDefEqProofs only [AM.RN]; first | done | omega) | fail) only [↓AM.R0, AM.R1, AM.R2, Nat.reduceAdd, Nat.reduceLeDiff, Nat.reduceEqDiff, Int.reduceToNat, Nat.reduceLT, ↓reduceIte, Int.reduceEq, Int.reduceLT, Int.reduceLE, res3]
    have hp : pdec t = .bad 2 0 := if_pos (by omega)
    subst hQ
    refine ⟨(f0.pushTmp _).setTmp (by omega) _, [.nils, .nils, .nils], ?_⟩
    rw [hp]
    exact ⟨rfl, rfl, rfl, emp _⟩
  · simp only [decide_eq_false_iff_not] at hc
    simp -implicitDefEqProofs (disch := first | decide | assumption | omega | (simp -implicitDefEqProofs only [AM.RN]; first | done | omega) | fail) only [↓AM.R0, AM.R1, AM.R2, Nat.reduceAdd, Nat.reduceLeDiff, Nat.reduceEqDiff, Int.reduceToNat, Nat.reduceLT, ↓reduceIte, Int.reduceEq, Int.reduceLT, Int.reduceLE, hv1, hvc]
    have hp : pdec t = pprog t := if_neg (by omega)
    rw [hp] at hQ
    obtain ⟨G, hG⟩ : ∃ G, G = pprog t := ⟨_, rfl⟩
    rw [← hG] at hQ
    have hG : G = (PR.ok () 0).bind fun _ p => pprog t := hG
    unfold pprog at hG
    obtain ⟨hB0, hB0e⟩ : ∃ hB, hB = (h.push (.cells 0 false [.nils, .nils, .nils])).push (.cells 0 false [v, .int .i64 0, .int .i64 0, .int .i64 0]) := ⟨_, rfl⟩
    have nB0 : hB0.n = h.n + 2 := by rw [hB0e]; rfl
    have gB0r : hB0.get (h.n + 1) = .cells 0 false [v, .int .i64 (0 : Nat), .int .i64 0, .int .i64 0] := by rw [hB0e]; exact AHeap.get_push_same _ _
    have gB0z : hB0.get h.n = .cells 0 false [.nils, .nils, .nils] := by rw [hB0e, AHeap.get_push_ne _ _ (by simp)]; exact AHeap.get_push_same _ _
    have fB : HFrame h hB0 [] [] := by rw [hB0e]; exact (f0.pushTmp _).pushTmp _
    rw [← hB0e]
    have HB : RfOk hB0 (h.n + 1) v t := ⟨by omega, L.mono (by rw [AHeap.n_masks]; exact fB.n) fun j hj => by rw [AHeap.get_masks, if_neg (by simp; omega)]; exact fB.get j hj (by simp), by omega, hb⟩
    have q0 : Q1 hB0 (hB0.push (.cells 0 false [.nils, .nils, .nils])) (h.n + 1) v t (.ok () 0) (h.n + 2) (.cells 0 false [.nils, .nils, .nils]) :=
      ⟨HB, ⟨by rw [AHeap.get_push_ne _ _ (by omega)]; exact gB0r, by omega⟩, (HFrame.refl (by simpa using HB.lt)).pushTmp _, by rw [← nB0]; exact AHeap.get_push_same _ _, by simp; omega, by omega⟩
    generalize hB0.push (.cells 0 false [.nils, .nils, .nils]) = hB at *
    obtain ⟨K, hKe⟩ : ∃ K, K = (h.n + 1) :: (h.n + 2) :: h.n :: M0 := ⟨_, rfl⟩
    have hKr : h.n + 1 ∈ K := by rw [hKe]; simp
    have hKP : h.n + 2 ∈ K := by rw [hKe]; simp
    have hKz : h.n ∈ K := by rw [hKe]; simp
    have hKM : ∀ j, j ∈ M0 → j ∈ K := fun j hj => by rw [hKe]; simp [hj]
    have hKlt : ∀ j, j ∈ K → j < h.n + 3 := fun j hj => by
      rw [hKe] at hj
      simp only [List.mem_cons] at hj
      rcases hj with e | e | e | e
      · omega
      · omega
      · omega
      · have := hM00 j e; omega
    clear hKe
    have hKq : ∀ {h' : AHeap} {st' : PR Unit} {o : AObj}, Q1 hB0 h' (h.n + 1) v t st' (h.n + 2) o → ∀ j, j ∈ K → j < h'.n := fun q j hj => by have := hKlt j hj; have := q.lt; omega
    refine AM.callI_of (qnum q0.ok q0.S 32 16 (by omega) (by decide)) ?_
    rintro x h1 R
    obtain ⟨n, st1, rfl, f1, S1, hG, hn, k1⟩ := chI hG R
    clear R
    have q1 := q0.call f1 S1
    simp -implicitDefEqProofs (disch := first | decide | assumption | omega | (simp -implicitDefEqProofs only [AM.RN]; first | done | omega) | fail) only [↓AM.R0, AM.R1, AM.R2, Nat.reduceAdd, Nat.reduceLeDiff, Nat.reduceEqDiff, Int.reduceToNat, Nat.reduceLT, ↓reduceIte, Int.reduceEq, Int.reduceLT, Int.reduceLE]
    have hK1 := hKq q1
    refine AM.loopI_cut 0 (fun e h' => ∃ (l : List (Bool × List Int)) (st' : PR Unit) (lv : AVal) (F M : List Nat), e.val 0 = v ∧ e.val 2 = .ptr h.n 0 0 ∧ e.val 5 = .ptr (h.n + 1) 0 0 ∧ e.val 6 = .ptr (h.n + 2) 0 0 ∧
      Q1 hB0 h' (h.n + 1) v t st' (h.n + 2) (.cells 0 false [lv, .nils, .nils]) ∧
      RowsOf h' 2 (fun i row => (∃ q, st' = .ok () q) → TypeS (h'.masks M) i row) lv l F ∧ (∀ j, j ∈ F → h.n + 2 < j) ∧ (∀ j, j ∈ K ++ F → j ∈ M) ∧ (∀ j, j ∈ M → j < h'.n) ∧
      G = st'.bind fun _ p => (pkinds t 32 p).bind fun g p => (pnum t 32 16 p).bind fun m p => (plist (pfunc t) m p).bind fun fs p => if p < t.length then .bad 7 p else .ok ⟨l, asK g, fs⟩ p) ?_
      (fun k e h' => ∃ (l : List (Bool × List Int)) (st' : PR Unit) (lv : AVal) (F M : List Nat), k + l.length = n ∧ e.val 0 = v ∧ e.val 2 = .ptr h.n 0 0 ∧ e.val 5 = .ptr (h.n + 1) 0 0 ∧ e.val 6 = .ptr (h.n + 2) 0 0 ∧ e.val 7 = .int .i64 n ∧ e.val 8 = .int .i64 l.length ∧
      Q1 hB0 h' (h.n + 1) v t st' (h.n + 2) (.cells 0 false [lv, .nils, .nils]) ∧
      RowsOf h' 2 (fun i row => (∃ q, st' = .ok () q) → TypeS (h'.masks M) i row) lv l F ∧ (∀ j, j ∈ F → h.n + 2 < j) ∧ (∀ j, j ∈ K ++ F → j ∈ M) ∧ (∀ j, j ∈ M → j < h'.n) ∧
      G = st'.bind fun _ q => (plist (ptype t) k q).bind fun l2 p => (pkinds t 32 p).bind fun g p => (pnum t 32 16 p).bind fun m p => (plist (pfunc t) m p).bind fun fs p => if p < t.length then .bad 7 p else .ok ⟨l ++ l2, asK g, fs⟩ p) n ?_ ?_
    · clear q0 q1 hK1 f1 S1 k1 hG
      rintro e h' ⟨l, st', lv, F, M, e0, e2, e5, e6, q, hs, hF, hFM, hM, hG⟩
      obtain ⟨c1, c2⟩ := hs.cells
      have hTS : (∃ q, st' = .ok () q) → SlRow (h'.masks K) 2 (TypeS (h'.masks K)) lv l := fun hx =>
        ((hs.masks (M := K) fun j hj hm => by have h1 := hF j hj; have h2 := hKlt j hm; omega).monoR fun a row w => TypeS.sub (fun j hj => hFM j (List.mem_append_left _ hj)) (w hx)).row
      have hKq' := hKq q
      clear hs hF hFM hM
      simp -implicitDefEqProofs (disch := first | decide | assumption | omega | (simp -implicitDefEqProofs only [AM.RN]; first | done | omega) | fail) only [↓AM.R0, AM.R1, AM.R2, Nat.reduceAdd, Nat.reduceLeDiff, Nat.reduceEqDiff, Int.reduceToNat, Nat.reduceLT, ↓reduceIte, Int.reduceEq, Int.reduceLT, Int.reduceLE, e0, e2, e5, e6]
      refine AM.callI_of (qkinds q.ok q.S 32 (by omega)) ?_
      rintro gv h2 R
      obtain ⟨gs, st2, z2, ok2, f2, S2, hG, k2⟩ := chV [] hG R
      clear R
      have q2 := q.call f2 S2
      have g2 := q2.g
      have n2 := q2.lt
      obtain ⟨d1, d2⟩ := ZK.of z2
      simp -implicitDefEqProofs (disch := first | decide | assumption | omega | (simp -implicitDefEqProofs only [AM.RN]; first | done | omega) | fail) only [↓AM.R0, AM.R1, AM.R2, Nat.reduceAdd, Nat.reduceLeDiff, Nat.reduceEqDiff, Int.reduceToNat, Nat.reduceLT, ↓reduceIte, Int.reduceEq, Int.reduceLT, Int.reduceLE, e0, e2, e5, e6, g2, d1, d2]
      have q3 := q2.set (.cells 0 false [lv, gv, .nils])
      have m1 := mCall (K := K) f2 hKr
      have m2 := mSet (h := h2) hKP (.cells 0 false [lv, gv, .nils])
      have hTG : (∃ q, st2 = .ok () q) → SlRow ((h2.set (h.n + 2) (.cells 0 false [lv, gv, .nils])).masks K) 2 (TypeS ((h2.set (h.n + 2) (.cells 0 false [lv, gv, .nils])).masks K)) lv l ∧ SlRd ((h2.set (h.n + 2) (.cells 0 false [lv, gv, .nils])).masks K) 1 encK gv (asK gs) := fun ⟨q, e⟩ => by
        obtain ⟨q0, e0⟩ := k2 q e
        exact ⟨((hTS ⟨q0, e0⟩).mono (fun a row q => TypeS.mono m1.1 m1.2 q) m1.1 m1.2).mono (fun a row q => TypeS.mono m2.1 m2.2 q) m2.1 m2.2, SlRd.mono' m2.1 m2.2 ((ok2 q e).1 K hKq')⟩
      clear hTS ok2 m1 m2 z2
      generalize h2.set (h.n + 2) (.cells 0 false [lv, gv, .nils]) = hG0 at *
      refine AM.callI_of (qnum q3.ok q3.S 32 16 (by omega) (by decide)) ?_
      rintro x hL R
      obtain ⟨m, stL, rfl, fL, SL, hG, hm, kL⟩ := chI hG R
      clear R
      have qL := q3.call fL SL
      have m1 := mCall (K := K) fL hKr
      have hTL : (∃ q, stL = .ok () q) → SlRow (hL.masks K) 2 (TypeS (hL.masks K)) lv l ∧ SlRd (hL.masks K) 1 encK gv (asK gs) := fun ⟨q, e⟩ => by
        obtain ⟨a1, a2⟩ := hTG (kL q e)
        exact ⟨a1.mono (fun a row q => TypeS.mono m1.1 m1.2 q) m1.1 m1.2, SlRd.mono' m1.1 m1.2 a2⟩
      have hKL := hKq qL
      clear hTG m1 q2 q3 g2 n2 f2 S2 q hKq' fL SL
      simp -implicitDefEqProofs (disch := first | decide | assumption | omega | (simp -implicitDefEqProofs only [AM.RN]; first | done | omega) | fail) only [↓AM.R0, AM.R1, AM.R2, Nat.reduceAdd, Nat.reduceLeDiff, Nat.reduceEqDiff, Int.reduceToNat, Nat.reduceLT, ↓reduceIte, Int.reduceEq, Int.reduceLT, Int.reduceLE, e0, e2, e5, e6]
      refine AM.loopI_cut 2 (fun e h' => ∃ (fs : List PFunc) (st' : PR Unit) (fv : AVal), e.val 0 = v ∧ e.val 2 = .ptr h.n 0 0 ∧ e.val 5 = .ptr (h.n + 1) 0 0 ∧ e.val 6 = .ptr (h.n + 2) 0 0 ∧
        Q1 hB0 h' (h.n + 1) v t st' (h.n + 2) (.cells 0 false [lv, gv, fv]) ∧ fv.cell = true ∧
        ((∃ q, st' = .ok () q) → ProgS (h'.masks K) ⟨l, asK gs, fs⟩ [lv, gv, fv]) ∧
        G = st'.bind fun _ p => if p < t.length then .bad 7 p else .ok ⟨l, asK gs, fs⟩ p) ?_
        (fun k e h' => ∃ (l2 : List PFunc) (st' : PR Unit) (fv : AVal) (F M : List Nat), k + l2.length = m ∧ e.val 0 = v ∧ e.val 2 = .ptr h.n 0 0 ∧ e.val 5 = .ptr (h.n + 1) 0 0 ∧ e.val 6 = .ptr (h.n + 2) 0 0 ∧ e.val 7 = .int .i64 m ∧ e.val 10 = .int .i64 l2.length ∧
        Q1 hB0 h' (h.n + 1) v t st' (h.n + 2) (.cells 0 false [lv, gv, fv]) ∧ HFrame hL h' [h.n + 1, h.n + 2] [h.n + 1, h.n + 2] ∧
        RowsOf h' 4 (fun i row => (∃ q, st' = .ok () q) → FuncS (h'.masks M) i row) fv l2 F ∧ (∀ j, j ∈ F → hL.n ≤ j) ∧ (∀ j, j ∈ K ++ F → j ∈ M) ∧ (∀ j, j ∈ M → j < h'.n) ∧ (∀ q, st' = .ok () q → ∃ q0, stL = .ok () q0) ∧
        G = st'.bind fun _ q => (plist (pfunc t) k q).bind fun l3 p => if p < t.length then .bad 7 p else .ok ⟨l, asK gs, l2 ++ l3⟩ p) m ?_ ?_
      · rintro e h' ⟨fs, st', fv, e0, e2, e5, e6, q, hfv, hP, hG⟩
        have S' := q.S
        have nr := q.ok.lt
        have nP := q.lt
        have gP := q.g
        have hlen := q.ok.txt.len
        have gz : h'.get h.n = .cells 0 false [.nils, .nils, .nils] := (q.f.get h.n (by omega) (by simp)).trans gB0z
        have fz : ∀ {h2 : AHeap}, HFrame hB0 h2 [h.n + 1] [h.n + 1] → ∀ o, HFrame h (h2.set h.n o) [] [] := fun f o => ((tmpF (n := h.n) fB f (Nat.le_refl _) (by omega) (by simp)).1).setTmp (Nat.le_refl _) o
        have fin : ∀ (e : Int) (p : Nat) (h2 : AHeap), G = .bad e p → HFrame hB0 h2 [h.n + 1] [h.n + 1] → Q (.tup [.agg [.nils, .nils, .nils], .int .i64 e, .int .i64 p]) (h2.set h.n (.cells 0 false [.nils, .nils, .nils])) := by
          intro e p h2 hg f
          subst hQ
          rw [hg]
          exact ⟨fz f _, [.nils, .nils, .nils], rfl, rfl, rfl, emp _⟩
        cases st' with
        | bad e1 q1 =>
          obtain ⟨he, p3, hg3, hp3⟩ := S'
          rw [PR.bad_bind] at hG
          simp -implicitDefEqProofs (disch := first | decide | assumption | omega | (simp -implicitDefEqProofs only [AM.RN]; first | done | omega) | fail) only [↓AM.R0, AM.R1, AM.R2, Nat.reduceAdd, Nat.reduceLeDiff, Nat.reduceEqDiff, Int.reduceToNat, Nat.reduceLT, ↓reduceIte, Int.reduceEq, Int.reduceLT, Int.reduceLE, e0, e2, e5, e6, hg3, hlen]
          refine AM.cI_bool (fun hd => ?_) (fun hd => ?_)
          · simp -implicitDefEqProofs (disch := first | decide | assumption | omega | (simp -implicitDefEqProofs only [AM.RN]; first | done | omega) | fail) only [↓AM.R0, AM.R1, AM.R2, Nat.reduceAdd, Nat.reduceLeDiff, Nat.reduceEqDiff, Int.reduceToNat, Nat.reduceLT, ↓reduceIte, Int.reduceEq, Int.reduceLT, Int.reduceLE, e0, e2, e5, e6, hg3]
            refine AM.callI_of (qfail hg3 nr 7 p3) ?_
            rintro x h2 ⟨f2, g2, n2, kk2⟩
            rw [if_neg he] at g2
            have gz2 : h2.get h.n = _ := (kk2 h.n (by omega)).trans gz
            have nz2 : h.n < h2.n := by omega
            have nr2 : h.n + 1 < h2.n := by omega
            simp -implicitDefEqProofs (disch := first | decide | assumption | omega | (simp -implicitDefEqProofs only [AM.RN]; first | done | omega) | fail) only [↓AM.R0, AM.R1, AM.R2, Nat.reduceAdd, Nat.reduceLeDiff, Nat.reduceEqDiff, Int.reduceToNat, Nat.reduceLT, ↓reduceIte, Int.reduceEq, Int.reduceLT, Int.reduceLE, e0, e2, e5, e6, g2, he, gz2, res3]
            exact fin _ _ _ hG (q.f.trans f2)
          · simp -implicitDefEqProofs (disch := first | decide | assumption | omega | (simp -implicitDefEqProofs only [AM.RN]; first | done | omega) | fail) only [↓AM.R0, AM.R1, AM.R2, Nat.reduceAdd, Nat.reduceLeDiff, Nat.reduceEqDiff, Int.reduceToNat, Nat.reduceLT, ↓reduceIte, Int.reduceEq, Int.reduceLT, Int.reduceLE, e0, e2, e5, e6, hg3, he, gz, res3]
            exact fin _ _ _ hG q.f
        | ok _ q1 =>
          obtain ⟨hg3, hp3⟩ := S'
          rw [PR.ok_bind] at hG
          simp -implicitDefEqProofs (disch := first | decide | assumption | omega | (simp -implicitDefEqProofs only [AM.RN]; first | done | omega) | fail) only [↓AM.R0, AM.R1, AM.R2, Nat.reduceAdd, Nat.reduceLeDiff, Nat.reduceEqDiff, Int.reduceToNat, Nat.reduceLT, ↓reduceIte, Int.reduceEq, Int.reduceLT, Int.reduceLE, e0, e2, e5, e6, hg3, hlen]
          refine AM.cI_bool (fun hd => ?_) (fun hd => ?_)
          · simp only [decide_eq_true_eq] at hd
            rw [if_pos (by omega)] at hG
            simp -implicitDefEqProofs (disch := first | decide | assumption | omega | (simp -implicitDefEqProofs only [AM.RN]; first | done | omega) | fail) only [↓AM.R0, AM.R1, AM.R2, Nat.reduceAdd, Nat.reduceLeDiff, Nat.reduceEqDiff, Int.reduceToNat, Nat.reduceLT, ↓reduceIte, Int.reduceEq, Int.reduceLT, Int.reduceLE, e0, e2, e5, e6, hg3]
            refine AM.callI_of (qfail hg3 nr 7 q1) ?_
            rintro x h2 ⟨f2, g2, n2, kk2⟩
            rw [if_pos rfl] at g2
            have gz2 : h2.get h.n = _ := (kk2 h.n (by omega)).trans gz
            have nz2 : h.n < h2.n := by omega
            have nr2 : h.n + 1 < h2.n := by omega
            simp -implicitDefEqProofs (disch := first | decide | assumption | omega | (simp -implicitDefEqProofs only [AM.RN]; first | done | omega) | fail) only [↓AM.R0, AM.R1, AM.R2, Nat.reduceAdd, Nat.reduceLeDiff, Nat.reduceEqDiff, Int.reduceToNat, Nat.reduceLT, ↓reduceIte, Int.reduceEq, Int.reduceLT, Int.reduceLE, e0, e2, e5, e6, g2, gz2, res3]
            exact fin _ _ _ hG (q.f.trans f2)
          · simp only [decide_eq_false_iff_not] at hd
            rw [if_neg (by omega)] at hG
            simp -implicitDefEqProofs (disch := first | decide | assumption | omega | (simp -implicitDefEqProofs only [AM.RN]; first | done | omega) | fail) only [↓AM.R0, AM.R1, AM.R2, Nat.reduceAdd, Nat.reduceLeDiff, Nat.reduceEqDiff, Int.reduceToNat, Nat.reduceLT, ↓reduceIte, Int.reduceEq, Int.reduceLT, Int.reduceLE, e0, e2, e5, e6, hg3, gP, gz, c2, d2, hfv, res3]
            subst hQ
            rw [hG]
            have m2 := mSet (h := h') hKz (.cells 0 false [lv, gv, fv])
            exact ⟨fz q.f _, [lv, gv, fv], rfl, rfl, by simp only [List.all_cons, c2, d2, hfv, List.all_nil, Bool.and_self], ProgS.sub hKM (ProgS.mono m2.1 m2.2 (hP ⟨q1, rfl⟩))⟩
      · have hF0 : ∀ j, j ∈ ([] : List Nat) → hL.n ≤ j := fun j hj => nomatch hj
        have hFM0 : ∀ j, j ∈ K ++ ([] : List Nat) → j ∈ K := fun j hj => by simpa using hj
        have fL : HFrame hL hL [h.n + 1, h.n + 2] [h.n + 1, h.n + 2] := HFrame.refl (fun j hj => by simp only [List.mem_cons, List.not_mem_nil, or_false] at hj; have := qL.lt; omega)
        refine ⟨[], stL, .nils, [], K, ?_⟩
        simp -implicitDefEqProofs (disch := first | decide | assumption | omega | (simp -implicitDefEqProofs only [AM.RN]; first | done | omega) | fail) only [↓AM.R0, AM.R1, AM.R2, Nat.reduceAdd, Nat.reduceLeDiff, Nat.reduceEqDiff, Int.reduceToNat, Nat.reduceLT, ↓reduceIte, Int.reduceEq, Int.reduceLT, Int.reduceLE, e0, e2, e5, e6]
        and_intros <;> first | omega | exact (fun j hj => hj) | exact RowsOf.nil | exact hF0 | exact hFM0 | exact hKL | exact qL | exact fL | exact hG | exact (fun q e => ⟨q, e⟩) | rfl
      · clear e0 e2 e5 e6 hG e
        rintro k e h' ⟨l2, st', fv, F, M, hk, e0, e2, e5, e6, e7, e10, q, fX, hs, hF, hFM, hM, hok, hG⟩
        have bo := hs.beq
        obtain ⟨d3, d4⟩ := hs.cells
        have g := q.g
        have nq := q.lt
        have S' := q.S
        have nr := q.ok.lt
        have nX := fX.n
        have nL := qL.lt
        have hrF : h.n + 1 ∉ F := fun hm => by have := hF _ hm; omega
        have hPF : h.n + 2 ∉ F := fun hm => by have := hF _ hm; omega
        have ex : ∀ q1, st' = .ok () q1 → G = (if q1 < t.length then .bad 7 q1 else .ok ⟨l, asK gs, l2⟩ q1) → ProgS (h'.masks K) ⟨l, asK gs, l2⟩ [lv, gv, fv] := fun q1 hx _ => by
          obtain ⟨a1, a2⟩ := hTL (hok q1 hx)
          have mz := masks_step (h := hL) (h' := h') (N := []) (M := K) nX (fun j hj hm => fX.get j hj (by
            simp only [List.mem_cons, List.not_mem_nil, or_false]
            rintro (e | e) <;> rw [e] at hm
            · exact hm hKr
            · exact hm hKP)) (by simp)
          exact ⟨lv, gv, fv, rfl, a1.mono (fun a row q => TypeS.mono mz.1 mz.2 q) mz.1 mz.2, SlRd.mono' mz.1 mz.2 a2, ((hs.masks (M := K) fun j hj hm => by have h1 := hF j hj; have h2 := hKlt j hm; omega).monoR fun a row w => FuncS.sub (fun j hj => hFM j (List.mem_append_left _ hj)) (w ⟨q1, hx⟩)).row⟩
        cases st' with
        | bad e2' q2 =>
          obtain ⟨he, p3, hg3, hp3⟩ := S'
          simp -implicitDefEqProofs (disch := first | decide | assumption | omega | (simp -implicitDefEqProofs only [AM.RN]; first | done | omega) | fail) only [AM.RGB, ↓AM.R0, AM.R1, AM.R2, Nat.reduceAdd, Nat.reduceLeDiff, Nat.reduceEqDiff, Int.reduceToNat, Nat.reduceLT, ↓reduceIte, Int.reduceEq, Int.reduceLT, Int.reduceLE, AM.cut_exit, e0, e2, e5, e6, e7, e10, hg3, he]
          exact ⟨l2, .bad e2' q2, fv, q, d4, fun ⟨q, e⟩ => (nomatch e), hG⟩
        | ok _ q1 =>
          obtain ⟨hg3, hp3⟩ := S'
          simp -implicitDefEqProofs (disch := first | decide | assumption | omega | (simp -implicitDefEqProofs only [AM.RN]; first | done | omega) | fail) only [AM.RGB, ↓AM.R0, AM.R1, AM.R2, Nat.reduceAdd, Nat.reduceLeDiff, Nat.reduceEqDiff, Int.reduceToNat, Nat.reduceLT, ↓reduceIte, Int.reduceEq, Int.reduceLT, Int.reduceLE, AM.cut_exit, e0, e2, e5, e6, e7, e10, hg3]
          refine AM.cI_bool (fun hb => ?_) (fun hb => ?_)
          · simp only [decide_eq_true_eq] at hb
            obtain ⟨k, rfl⟩ : ∃ m, k = m + 1 := ⟨k - 1, by omega⟩
            have hw : IntKind.i64.wrap ((l2.length : Int) + 1) = ((l2.length + 1 : Nat) : Int) := wrap64 (by omega) (by omega)
            simp -implicitDefEqProofs (disch := first | decide | assumption | omega | (simp -implicitDefEqProofs only [AM.RN]; first | done | omega) | fail) only [↓AM.R0, AM.R1, AM.R2, Nat.reduceAdd, Nat.reduceLeDiff, Nat.reduceEqDiff, Int.reduceToNat, Nat.reduceLT, ↓reduceIte, Int.reduceEq, Int.reduceLT, Int.reduceLE, AM.cut_exit, e0, e2, e5, e6, e7, e10, g]
            refine AM.trCall_of (qfun q.ok q.S M hM) ?_
            rintro x h3 R
            simp only [plist_succ, PR.bind_bind, PR.ok_bind] at hG
            obtain ⟨mf, st3, z3, ok3, f3, S3, hG, k3⟩ := chV (st := .ok () q1) (rest := fun m p => (plist (pfunc t) k p).bind fun l3 p => if p < t.length then .bad 7 p else .ok (PProg.mk l (asK gs) (l2 ++ m :: l3)) p) ⟨0, [], [], []⟩ hG R
            clear R
            obtain ⟨row, rfl, hr1, hr2⟩ := RFN.of z3
            have q3 := q.call f3 S3
            have ma := mCall (K := M) f3 (hFM _ (by simp [hKr]))
            have hs3 := (hs.frame f3.n fun j hj => f3.get j (hs.lt j hj) (by simp; intro e; exact hrF (e ▸ hj))).monoR (R' := fun i row => (∃ q, st3 = .ok () q) → FuncS (h3.masks M) i row) (fun a row w hx => FuncS.mono ma.1 ma.2 (w ⟨q1, rfl⟩))
            have g3 := q3.g
            have n3 := q3.lt
            have hrow : (∃ q, st3 = .ok () q) → FuncS (h3.masks M) mf row := fun ⟨q, e⟩ => by
              obtain ⟨row', e1, _, _, w⟩ := ok3 q e
              cases e1
              exact w
            simp -implicitDefEqProofs (disch := first | decide | assumption | omega | (simp -implicitDefEqProofs only [AM.RN]; first | done | omega) | fail) only [↓AM.R0, AM.R1, AM.R2, Nat.reduceAdd, Nat.reduceLeDiff, Nat.reduceEqDiff, Int.reduceToNat, Nat.reduceLT, ↓reduceIte, Int.reduceEq, Int.reduceLT, Int.reduceLE, AM.cut_exit, e0, e2, e5, e6, e7, e10, hr1, hr2]
            refine AM.trOp_of (hs3.app1 (bytes := 80) (a := mf) (by omega) hr1 hr2 hrow fun v' h4 F4 s4' f4 => ?_)
            obtain ⟨c1', c2'⟩ := s4'.cells
            have q4 : Q1 hB0 h4 (h.n + 1) v t st3 (h.n + 2) (.cells 0 false [lv, gv, fv]) := ((q3.tmp f4 (fun j hj => by have := hF j hj; omega))).1
            have g4 := q4.g
            have n4 := q4.lt
            have n34 := f4.n
            have n33 := f3.n
            simp -implicitDefEqProofs (disch := first | decide | assumption | omega | (simp -implicitDefEqProofs only [AM.RN]; first | done | omega) | fail) only [↓AM.R0, AM.R1, AM.R2, Nat.reduceAdd, Nat.reduceLeDiff, Nat.reduceEqDiff, Int.reduceToNat, Nat.reduceLT, ↓reduceIte, Int.reduceEq, Int.reduceLT, Int.reduceLE, AM.cut_exit, e0, e2, e5, e6, e7, e10, g4, g3, g, bo, c1', c2', hw]
            have q5 := q4.set (.cells 0 false [lv, gv, v'])
            obtain ⟨fX4, hF4⟩ := tmpF (n := hL.n) (frW fX f3 (by simp)) f4 (Nat.le_refl _) (by omega) hF
            have fX5 := frS fX4 (i := h.n + 2) (by simp) (.cells 0 false [lv, gv, v'])
            have mu := masks_step (h := h3) (h' := h4.set (h.n + 2) (.cells 0 false [lv, gv, v'])) (N := F4) (M := M) (by simpa using f4.n)
              (fun j hj hm => by
                rw [AHeap.get_set_ne _ _ (by intro e; rw [e] at hm; exact hm (hFM _ (by simp [hKP])))]
                exact f4.get j hj fun hq => hm (hFM j (List.mem_append_right _ hq)))
              (fun j hj => by
                rcases f4.new j hj with e | e
                · exact .inl (hFM j (List.mem_append_right _ e))
                · exact .inr e)
            have s5 : RowsOf (h4.set (h.n + 2) (.cells 0 false [lv, gv, v'])) 4 (fun i row => (∃ q, st3 = .ok () q) → FuncS ((h4.set (h.n + 2) (.cells 0 false [lv, gv, v'])).masks (F4 ++ M)) i row) v' (l2 ++ [mf]) F4 :=
              (s4'.set (fun hm => by have := hF4 _ hm; omega) _).monoR (fun a row w hx => FuncS.mono mu.1 mu.2 (w hx))
            have hFM' : ∀ j, j ∈ K ++ F4 → j ∈ F4 ++ M := fun j hj => by
              rcases List.mem_append.1 hj with e | e
              · exact List.mem_append_right _ (hFM j (List.mem_append_left _ e))
              · exact List.mem_append_left _ e
            have hM' : ∀ j, j ∈ F4 ++ M → j < h4.n := fun j hj => by
              rcases List.mem_append.1 hj with e | e
              · exact s4'.lt j e
              · have h1 := hM j e; omega
            have hG' : G = st3.bind fun _ q => (plist (pfunc t) k q).bind fun l3 p => if p < t.length then .bad 7 p else .ok ⟨l, asK gs, (l2 ++ [mf]) ++ l3⟩ p := by
              rw [hG]; simp only [List.append_assoc, List.cons_append, List.nil_append]
            have hok' : ∀ q, st3 = .ok () q → ∃ q0, stL = .ok () q0 := fun q e => hok _ rfl
            refine ⟨k, by omega, l2 ++ [mf], st3, v', F4, F4 ++ M, ?_⟩
            rw [List.length_append, List.length_cons, List.length_nil]
            and_intros <;> first | omega | exact q5 | exact fX5 | exact s5 | exact hF4 | exact hFM' | exact hM' | exact hok' | exact hG' | rfl
          · simp only [decide_eq_false_iff_not] at hb
            have hk0 : k = 0 := by omega
            subst hk0
            simp only [plist_zero, PR.ok_bind, List.append_nil] at hG
            simp -implicitDefEqProofs (disch := first | decide | assumption | omega | (simp -implicitDefEqProofs only [AM.RN]; first | done | omega) | fail) only [↓AM.R0, AM.R1, AM.R2, Nat.reduceAdd, Nat.reduceLeDiff, Nat.reduceEqDiff, Int.reduceToNat, Nat.reduceLT, ↓reduceIte, Int.reduceEq, Int.reduceLT, Int.reduceLE, AM.cut_exit, e0, e2, e5, e6]
            exact ⟨l2, .ok () q1, fv, q, d4, fun _ => ex q1 rfl hG, hG⟩
    · have hF0 : ∀ j, j ∈ ([] : List Nat) → h.n + 2 < j := fun j hj => nomatch hj
      have hFM0 : ∀ j, j ∈ K ++ ([] : List Nat) → j ∈ K := fun j hj => by simpa using hj
      refine ⟨[], st1, .nils, [], K, ?_⟩
      simp -implicitDefEqProofs (disch := first | decide | assumption | omega | (simp -implicitDefEqProofs only [AM.RN]; first | done | omega) | fail) only [↓AM.R0, AM.R1, AM.R2, Nat.reduceAdd, Nat.reduceLeDiff, Nat.reduceEqDiff, Int.reduceToNat, Nat.reduceLT, ↓reduceIte, Int.reduceEq, Int.reduceLT, Int.reduceLE]
      and_intros <;> first | omega | exact (fun j hj => hj) | exact RowsOf.nil | exact hF0 | exact hFM0 | exact hK1 | exact q1 | exact hG | rfl
    · rintro k e h' ⟨l, st', lv, F, M, hk, e0, e2, e5, e6, e7, e8, q, hs, hF, hFM, hM, hG⟩
      have bo := hs.beq
      obtain ⟨d1, d2⟩ := hs.cells
      have g := q.g
      have nq := q.lt
      have S' := q.S
      have nr := q.ok.lt
      have hrF : h.n + 1 ∉ F := fun hm => by have := hF _ hm; omega
      have hPF : h.n + 2 ∉ F := fun hm => by have := hF _ hm; omega
      cases st' with
      | bad e2' q2 =>
        obtain ⟨he, p3, hg3, hp3⟩ := S'
        simp -implicitDefEqProofs (disch := first | decide | assumption | omega | (simp -implicitDefEqProofs only [AM.RN]; first | done | omega) | fail) only [AM.RGB, ↓AM.R0, AM.R1, AM.R2, Nat.reduceAdd, Nat.reduceLeDiff, Nat.reduceEqDiff, Int.reduceToNat, Nat.reduceLT, ↓reduceIte, Int.reduceEq, Int.reduceLT, Int.reduceLE, AM.cut_exit, e0, e2, e5, e6, e7, e8, hg3, he]
        exact ⟨l, .bad e2' q2, lv, F, M, q, hs, hF, hFM, hM, hG⟩
      | ok _ q1 =>
        obtain ⟨hg3, hp3⟩ := S'
        simp -implicitDefEqProofs (disch := first | decide | assumption | omega | (simp -implicitDefEqProofs only [AM.RN]; first | done | omega) | fail) only [AM.RGB, ↓AM.R0, AM.R1, AM.R2, Nat.reduceAdd, Nat.reduceLeDiff, Nat.reduceEqDiff, Int.reduceToNat, Nat.reduceLT, ↓reduceIte, Int.reduceEq, Int.reduceLT, Int.reduceLE, AM.cut_exit, e0, e2, e5, e6, e7, e8, hg3]
        refine AM.cI_bool (fun hb => ?_) (fun hb => ?_)
        · simp only [decide_eq_true_eq] at hb
          obtain ⟨k, rfl⟩ : ∃ m, k = m + 1 := ⟨k - 1, by omega⟩
          have hw : IntKind.i64.wrap ((l.length : Int) + 1) = ((l.length + 1 : Nat) : Int) := wrap64 (by omega) (by omega)
          simp -implicitDefEqProofs (disch := first | decide | assumption | omega | (simp -implicitDefEqProofs only [AM.RN]; first | done | omega) | fail) only [↓AM.R0, AM.R1, AM.R2, Nat.reduceAdd, Nat.reduceLeDiff, Nat.reduceEqDiff, Int.reduceToNat, Nat.reduceLT, ↓reduceIte, Int.reduceEq, Int.reduceLT, Int.reduceLE, AM.cut_exit, e0, e2, e5, e6, e7, e8, g]
          have hpt : (ptype t q1) = (pnum t 1 8 q1).bind fun b p => (pkinds t 16 p).bind fun l p => .ok (decide ((b : Int) = 1), asK l) p := rfl
          simp only [plist_succ, PR.bind_bind, PR.ok_bind, hpt] at hG
          have qT := q.push (.cells 0 false [.bool false, .nils])
          have gT := AHeap.get_push_same h' (.cells 0 false [.bool false, .nils])
          have nT : (h'.push (.cells 0 false [.bool false, .nils])).n = h'.n + 1 := rfl
          have mT : (h'.masks M).n ≤ ((h'.push (.cells 0 false [.bool false, .nils])).masks (h'.n :: M)).n ∧ ∀ j, j < (h'.masks M).n → ((h'.push (.cells 0 false [.bool false, .nils])).masks (h'.n :: M)).get j = (h'.masks M).get j :=
            masks_step (N := [h'.n]) (M := M) (by simp) (fun j hj hm => AHeap.get_push_ne _ _ (by omega)) (by simp)
          have hsT := (hs.push (.cells 0 false [.bool false, .nils])).monoR (fun a row w => fun _ : Unit => TypeS.mono mT.1 mT.2 (w ⟨q1, rfl⟩))
          have hMT : ∀ j, j ∈ h'.n :: M → j < h'.n + 1 := fun j hj => by
            rcases List.mem_cons.1 hj with e | e
            · omega
            · have := hM j e; omega
          generalize h'.push (.cells 0 false [.bool false, .nils]) = hT at *
          refine AM.callI_of (qnum qT.ok qT.S 1 8 (by omega) (by decide)) ?_
          rintro x h3 R
          obtain ⟨b, st3, rfl, f3, S3, hG, hb1, k3⟩ := chI (st := .ok () q1) hG R
          clear R
          have q3 := qT.call f3 S3
          have g3T := kp f3 gT (by omega) (by omega)
          have n3 := f3.n
          have hrT : h.n + 1 ∈ h'.n :: M := List.mem_cons_of_mem _ (hFM _ (by simp [hKr]))
          have m3 := mCall (K := h'.n :: M) f3 hrT
          have hs3 := (hsT.frame f3.n fun j hj => f3.get j (hsT.lt j hj) (by simp; intro e; exact hrF (e ▸ hj))).monoR (fun a row w => fun _ : Unit => TypeS.mono m3.1 m3.2 (w ()))
          simp -implicitDefEqProofs (disch := first | decide | assumption | omega | (simp -implicitDefEqProofs only [AM.RN]; first | done | omega) | fail) only [↓AM.R0, AM.R1, AM.R2, Nat.reduceAdd, Nat.reduceLeDiff, Nat.reduceEqDiff, Int.reduceToNat, Nat.reduceLT, ↓reduceIte, Int.reduceEq, Int.reduceLT, Int.reduceLE, AM.cut_exit, e0, e2, e5, e6, e7, e8, g3T]
          have q3 := q3.setN (i := h'.n) (by omega) (.cells 0 false [.bool (decide ((b : Int) = 1)), .nils])
          have g3T : (h3.set h'.n (.cells 0 false [.bool (decide ((b : Int) = 1)), .nils])).get h'.n = _ := AHeap.get_set_same _ _ _
          have mS := mSet (h := h3) (K := h'.n :: M) (P := h'.n) (by simp) (.cells 0 false [.bool (decide ((b : Int) = 1)), .nils])
          have hs3 := (hs3.set (i := h'.n) (fun hm => by have := hs.lt _ hm; omega) (.cells 0 false [.bool (decide ((b : Int) = 1)), .nils])).monoR (fun a row w => fun _ : Unit => TypeS.mono mS.1 mS.2 (w ()))
          have n3' : (h3.set h'.n (.cells 0 false [.bool (decide ((b : Int) = 1)), .nils])).n = h3.n := rfl
          generalize h3.set h'.n (.cells 0 false [.bool (decide ((b : Int) = 1)), .nils]) = h3' at *
          refine AM.callI_of (qkinds q3.ok q3.S 16 (by omega)) ?_
          rintro kv h4 R
          obtain ⟨ks, st4, z4, ok4, f4, S4, hG, k4⟩ := chV [] hG R
          clear R
          have q4 := q3.call f4 S4
          have g4T := kp f4 g3T (by omega) (by omega)
          have n4 := f4.n
          obtain ⟨c1, c2⟩ := ZK.of z4
          have m4 := mCall (K := h'.n :: M) f4 hrT
          have hs4 := (hs3.frame f4.n fun j hj => f4.get j (hs3.lt j hj) (by simp; intro e; exact hrF (e ▸ hj))).monoR (fun a row w => fun _ : Unit => TypeS.mono m4.1 m4.2 (w ()))
          have g40 := q4.g
          have n40 := q4.lt
          simp -implicitDefEqProofs (disch := first | decide | assumption | omega | (simp -implicitDefEqProofs only [AM.RN]; first | done | omega) | fail) only [↓AM.R0, AM.R1, AM.R2, Nat.reduceAdd, Nat.reduceLeDiff, Nat.reduceEqDiff, Int.reduceToNat, Nat.reduceLT, ↓reduceIte, Int.reduceEq, Int.reduceLT, Int.reduceLE, AM.cut_exit, e0, e2, e5, e6, e7, e8, g4T, g40, c1, c2]
          have q4 := q4.setN (i := h'.n) (by omega) (.cells 0 false [.bool (decide ((b : Int) = 1)), kv])
          have g4T : (h4.set h'.n (.cells 0 false [.bool (decide ((b : Int) = 1)), kv])).get h'.n = _ := AHeap.get_set_same _ _ _
          have mS := mSet (h := h4) (K := h'.n :: M) (P := h'.n) (by simp) (.cells 0 false [.bool (decide ((b : Int) = 1)), kv])
          have hs4 := (hs4.set (i := h'.n) (fun hm => by have := hs.lt _ hm; omega) (.cells 0 false [.bool (decide ((b : Int) = 1)), kv])).monoR (R' := fun i row => (∃ q, st4 = .ok () q) → TypeS ((h4.set h'.n (.cells 0 false [.bool (decide ((b : Int) = 1)), kv])).masks (h'.n :: M)) i row) (fun a row w => fun _ => TypeS.mono mS.1 mS.2 (w ()))
          have hrow : (∃ q, st4 = .ok () q) → TypeS ((h4.set h'.n (.cells 0 false [.bool (decide ((b : Int) = 1)), kv])).masks (h'.n :: M)) (decide ((b : Int) = 1), asK ks) [.bool (decide ((b : Int) = 1)), kv] := fun ⟨q, e⟩ =>
            ⟨kv, rfl, SlRd.mono' mS.1 mS.2 ((ok4 q e).1 (h'.n :: M) (fun j hj => by have := hMT j hj; omega))⟩
          have g4P := q4.g
          have n4' : (h4.set h'.n (.cells 0 false [.bool (decide ((b : Int) = 1)), kv])).n = h4.n := rfl
          generalize h4.set h'.n (.cells 0 false [.bool (decide ((b : Int) = 1)), kv]) = h4' at *
          rw [← n4']
          refine AM.opI_of (hs4.app1 (bytes := 32) (a := (decide ((b : Int) = 1), asK ks)) (by omega) rfl (by simp only [List.all_cons, AM.cell_bool, c2, List.all_nil, Bool.and_self]) hrow fun v' h5 F5 s5 f5 => ?_)
          obtain ⟨q5, hF5⟩ := q4.tmp f5 hF
          obtain ⟨e1', e2'⟩ := s5.cells
          have g5P := q5.g
          have n5 := f5.n
          simp -implicitDefEqProofs (disch := first | decide | assumption | omega | (simp -implicitDefEqProofs only [AM.RN]; first | done | omega) | fail) only [↓AM.R0, AM.R1, AM.R2, Nat.reduceAdd, Nat.reduceLeDiff, Nat.reduceEqDiff, Int.reduceToNat, Nat.reduceLT, ↓reduceIte, Int.reduceEq, Int.reduceLT, Int.reduceLE, AM.cut_exit, e0, e2, e5, e6, e7, e8, g5P, e1', e2', hw]
          have q6 := q5.set (.cells 0 false [v', .nils, .nils])
          have mu := masks_step (h := h4') (h' := h5.set (h.n + 2) (.cells 0 false [v', .nils, .nils])) (N := F5) (M := h'.n :: M) (by simpa using f5.n)
            (fun j hj hm => by
              rw [AHeap.get_set_ne _ _ (by intro e; rw [e] at hm; exact hm (List.mem_cons_of_mem _ (hFM _ (by simp [hKP]))))]
              exact f5.get j hj fun hq => hm (List.mem_cons_of_mem _ (hFM j (List.mem_append_right _ hq))))
            (fun j hj => by
              rcases f5.new j hj with e | e
              · exact .inl (List.mem_cons_of_mem _ (hFM j (List.mem_append_right _ e)))
              · exact .inr e)
          have s6 : RowsOf (h5.set (h.n + 2) (.cells 0 false [v', .nils, .nils])) 2 (fun i row => (∃ q, st4 = .ok () q) → TypeS ((h5.set (h.n + 2) (.cells 0 false [v', .nils, .nils])).masks (F5 ++ (h'.n :: M))) i row) v' (l ++ [(decide ((b : Int) = 1), asK ks)]) F5 :=
            (s5.set (fun hm => by have := hF5 _ hm; omega) _).monoR (fun a row w hx => TypeS.mono mu.1 mu.2 (w hx))
          have hFM' : ∀ j, j ∈ K ++ F5 → j ∈ F5 ++ (h'.n :: M) := fun j hj => by
            rcases List.mem_append.1 hj with e | e
            · exact List.mem_append_right _ (List.mem_cons_of_mem _ (hFM j (List.mem_append_left _ e)))
            · exact List.mem_append_left _ e
          have hM' : ∀ j, j ∈ F5 ++ (h'.n :: M) → j < h5.n := fun j hj => by
            rcases List.mem_append.1 hj with e | e
            · exact s5.lt j e
            · have h1 := hMT j e; omega
          have hG' : G = st4.bind fun _ q => (plist (ptype t) k q).bind fun l2 p => (pkinds t 32 p).bind fun g p => (pnum t 32 16 p).bind fun m p => (plist (pfunc t) m p).bind fun fs p => if p < t.length then .bad 7 p else .ok ⟨(l ++ [(decide ((b : Int) = 1), asK ks)]) ++ l2, asK g, fs⟩ p := by
            rw [hG]; simp only [List.append_assoc, List.cons_append, List.nil_append]
          refine ⟨k, by omega, l ++ [(decide ((b : Int) = 1), asK ks)], st4, v', F5, F5 ++ (h'.n :: M), ?_⟩
          rw [List.length_append, List.length_cons, List.length_nil]
          and_intros <;> first | omega | exact q6 | exact s6 | exact hF5 | exact hFM' | exact hM' | exact hG' | rfl
        · simp only [decide_eq_false_iff_not] at hb
          have hk0 : k = 0 := by omega
          subst hk0
          simp only [plist_zero, PR.ok_bind, List.append_nil] at hG
          simp -implicitDefEqProofs (disch := first | decide | assumption | omega | (simp -implicitDefEqProofs only [AM.RN]; first | done | omega) | fail) only [↓AM.R0, AM.R1, AM.R2, Nat.reduceAdd, Nat.reduceLeDiff, Nat.reduceEqDiff, Int.reduceToNat, Nat.reduceLT, ↓reduceIte, Int.reduceEq, Int.reduceLT, Int.reduceLE, AM.cut_exit, e0, e2, e5, e6]
          exact ⟨l, .ok () q1, lv, F, M, q, hs, hF, hFM, hM, hG⟩
end Go.Proofs.Ytfagngiceofoeaa.Cd

