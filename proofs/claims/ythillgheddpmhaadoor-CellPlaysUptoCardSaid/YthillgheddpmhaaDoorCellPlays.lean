/-
  The law CellPlays holds, where the table of the library's package for bits starts as its text lays it: whatever the arguments are, of bulk at most 1048576, the call returns true, and the arguments read as they did.
-/
import Derived.Test.YthillgheddpmhaaDoorMX10
import Derived.Test.YthillgheddpmhaaDoorRows
import Derived.Test.YthillgheddpmhaaDoorCards
import Derived.Test.YthillgheddpmhaaDoorTie
import Derived.WalkKit
import Derived.ProofKit
import Derived.LaidMore
import Derived.OpenShut
import Derived.Stop.Joined
import Derived.SevenTiedAt
import Derived.JoinedCond
namespace Go.Proofs.YthillgheddpmhaaDoor.cellPlays
open Go.ChangeShapes Go.WideShapes Go.ChangeAt Go.RowKit
set_option linter.unusedVariables false
set_option linter.unusedSimpArgs false
set_option maxRecDepth 100000
theorem own : ownKnob Tryd.prog.godebug = none := by kernel_rfl
theorem laid : laidOutB Tryd.prog = true := by kernel_rfl
theorem readable : ∀ t, t ∈ Tryd.f13.params.toList → Tryd.prog.readableRec t = true ∧ t < Tryd.prog.types.size := by
  intro t ht
  rw [Tryd.params13] at ht
  have ht2 : t = 3 ∨ t = 3 ∨ t = 92 := by simpa using ht
  rcases ht2 with rfl | rfl | rfl <;> exact ⟨by kernel_rfl, of_decide_eq_true (by kernel_rfl)⟩
abbrev tabN : List Int := [0, 1, 56, 2, 57, 49, 28, 3, 61, 58, 42, 50, 38, 29, 17, 4, 62, 47, 59, 36, 45, 43, 51, 22, 53, 39, 33, 30, 24, 18, 12, 5, 63, 55, 48, 27, 60, 41, 37, 16, 46, 35, 44, 21, 52, 32, 23, 11, 54, 26, 40, 15, 34, 20, 31, 10, 25, 14, 19, 9, 13, 8, 7, 6]
theorem bulk (H : Type) : AM.Bulk H Rows.uptoBulk Rows.uptoBulkAll :=
  ⟨by simp [Rows.uptoBulkAll], fun _ _ => by simp [Rows.uptoBulkAll], fun _ _ => by simp [Rows.uptoBulk], fun _ => by simp [Rows.uptoBulk], fun _ _ => by simp [Rows.uptoBulk], fun _ => by simp [Rows.uptoBulk], by simp [Rows.uptoBulk]⟩
theorem one_le {H : Type} (d : DataW H) : 1 ≤ Rows.uptoBulk d := by
  cases d with
  | lit l => cases l <;> simp [Rows.uptoBulk]
  | nil => simp [Rows.uptoBulk]
  | ptr d => simp [Rows.uptoBulk]
  | slice elems spare => simp [Rows.uptoBulk]
  | agg parts => simp [Rows.uptoBulk]
  | iface t d => simp [Rows.uptoBulk]
  | map entries => simp [Rows.uptoBulk]
  | held h => simp [Rows.uptoBulk]
theorem cond_and {H : Type} {enc : TypeId × Value → H} {a : Assume} {C : Checked} {os : Os} {f : FuncId} {fn : Func} {s : OpenSpec} {k : (H : Type) → List (DataW H) → Bool} (hk : s.cond = some k) {F : Stop.Interp} {conds : List PathCond} {apart fresh handsOn again : Bool} {X : World → Array Value → Prop}
    (hX : ∀ (w w' : World) (args : Array Value), w.heap = w'.heap → X w args → X w' args)
    (own : ownKnob C.prog.godebug = none) (started : os.Started) (noInit : C.prog.inits.idxOf? f = none) (hfn : C.prog.funcs[f]? = some fn)
    (witness : ∃ (w : World) (tape : Tape) (i : Input), w.os = os ∧ (w.forCall tape i).Shaped C.prog ∧ i.vars = [] ∧ Input.okWide C.prog (w.forCall tape i) .any w.heap.size f i ∧
      ((s.pre enc C.prog fn conds apart (w.forCall tape i).memory i.args ∧ X (w.forCall tape i).memory i.args) ∧ sizedMet enc C.prog fn s apart (w.forCall tape i).memory i.args) ∧ a.holds C.prog (lone (Frame.enter C.prog f i.args .normal) [] (w.forCall tape i)))
    (contract : ∀ (W : World) (base : Nat) (args : Array Value) (ds gs : List (DataW H)) (before : List MemPlace),
      (∀ (j : Nat) t v, fn.params[j]? = some t → args[j]? = some v → Value.okWide C.prog W .any base t v) →
      DataW.Whole enc C.prog fn.params.toList s.vars apart W args.toList ds gs before →
      conds.all (PathCond.test C.prog ⟨fn.params.toList, ds, s.bare.plain.varTypes C.prog, gs⟩) = true → k H (ds ++ gs) = true → X W args →
      a.holds C.prog (lone (Frame.enter C.prog f args .normal) [] W) →
      Calls C.prog f args W fun e W' => ∃ v, e = .returned v ∧ (s.at F).post enc C.prog fn apart fresh handsOn again W args v W') :
    ReturnsInHanded a C os f .any (fun w args => (s.pre enc C.prog fn conds apart w args ∧ X w args) ∧ sizedMet enc C.prog fn s apart w args) ((s.at F).post enc C.prog fn apart fresh handsOn again) := by
  refine returnsInHanded_of_calls own started noInit witness ?_
  intro w tape i _ _ _ hok hpre hholds
  obtain ⟨_, _, _, fn', hfn', _, _, _, _, hval⟩ := hok
  have e : fn' = fn := Option.some.inj (hfn'.symm.trans hfn)
  subst e
  obtain ⟨⟨hp, hx⟩, hz⟩ := hpre
  obtain ⟨ds, gs, before, hw, hc, hkk⟩ := (OpenSpec.pre_some hk conds apart _ _).1 hp
  have hw' := DataW.Whole.of_heap (w' := w.forCall tape i) (by rfl) hw
  refine (contract (w.forCall tape i) w.heap.size i.args ds gs before hval hw' hc hkk (hX _ _ _ (by rfl) hx) hholds).mono fun e W' ⟨v, he, hp⟩ => ?_
  subst he
  exact ChangeSpec.post_blind hp
theorem cond_wit {H : Type} {enc : TypeId × Value → H} {C : Checked} {os : Os} {f : FuncId} {fn : Func} {s : OpenSpec} {k : (H : Type) → List (DataW H) → Bool} (hk : s.cond = some k) {conds : List PathCond} {apart : Bool} {X : World → Array Value → Prop} (modest : Bool) (w0 : World) (args : Array Value) (fuel : Nat) (hos : w0.os = os)
    (hsh : (w0.forCall (fun _ _ => 0) ⟨#[], args, []⟩).Shaped C.prog)
    (hok : Input.okWideB C.prog (w0.forCall (fun _ _ => 0) ⟨#[], args, []⟩) f ⟨#[], args, []⟩ = true)
    {x : List (DataW H) × List (DataW H) × List MemPlace} (hx0 : DataW.whole enc C.prog (w0.forCall (fun _ _ => 0) ⟨#[], args, []⟩).memory fn.params.toList s.vars apart args.toList fuel = some x)
    (hconds : conds.all (PathCond.test C.prog ⟨fn.params.toList, x.1, s.bare.plain.varTypes C.prog, x.2.1⟩) = true) (hkk : k H (x.1 ++ x.2.1) = true)
    (hsz : s.bare.sizedB enc C.prog fn apart (w0.forCall (fun _ _ => 0) ⟨#[], args, []⟩).memory args fuel = true)
    (hx : X (w0.forCall (fun _ _ => 0) ⟨#[], args, []⟩).memory args) :
    ∃ (w : World) (tape : Tape) (i : Input), w.os = os ∧ (w.forCall tape i).Shaped C.prog ∧ i.vars = [] ∧ Input.okWide C.prog (w.forCall tape i) .any w.heap.size f i ∧
      ((s.pre enc C.prog fn conds apart (w.forCall tape i).memory i.args ∧ X (w.forCall tape i).memory i.args) ∧ sizedMet enc C.prog fn s apart (w.forCall tape i).memory i.args) ∧ ({ modest := modest } : Assume).holds C.prog (lone (Frame.enter C.prog f i.args .normal) [] (w.forCall tape i)) :=
  ⟨w0, fun _ _ => 0, ⟨#[], args, []⟩, hos, hsh, (Input.okWide_of_okWideB (base := 0) hok).1, (Input.okWide_of_okWideB hok).2, ⟨⟨(OpenSpec.pre_some hk conds apart _ _).2 ⟨x.1, x.2.1, x.2.2, DataW.Whole_of_whole hx0, hconds, hkk⟩, hx⟩, sizedMet_of_sizedB hsz⟩, by
    simp only [Assume.holds]
    exact ⟨by simp, by simp, fun _ => Modest.zero, by simp, by simp⟩⟩
abbrev laidL {H : Type} : List (String × DataW H) := [("math/bits.deBruijn64tab", Rows.laid_math_bits_deBruijn64tab)]
theorem gTab : Tryd.prog.globalNamed "math/bits.deBruijn64tab" = some 0 := by kernel_rfl
theorem tTab : (Tryd.prog.globals[0]?).map (·.type) = some 153 := by kernel_rfl
abbrev Op4 := { o : Int × Int × Int × Int // (-9223372036854775808 ≤ o.2.1 ∧ o.2.1 ≤ 9223372036854775807) ∧ -9223372036854775808 ≤ o.2.2.1 ∧ o.2.2.1 ≤ 9223372036854775807 }
theorem opRow {H : Type} {h : AM.AHeap} {row : List AM.AVal} {x : DataW H} (ad : AM.AD Tryd.prog h 7 97 row x) : ∃ a : Op4, row = Pg.encO4 a.1 := by
  obtain ⟨parts, _, a⟩ := AM.adStruct Tryd.underlying97 ad
  simp only [List.map_cons, List.map_nil, AM.ADs] at a
  obtain ⟨c1, x1, r1, d1, rfl, rfl, _, a1, c2, x2, r2, d2, rfl, rfl, _, a2, c3, x3, r3, d3, rfl, rfl, _, a3, c4, x4, r4, d4, rfl, rfl, _, a4, rfl, rfl⟩ := a
  obtain ⟨m1, rfl, _⟩ := AM.adInt Tryd.underlying3 a1
  obtain ⟨m2, rfl, _, b1, b2⟩ := AM.adInt Tryd.underlying3 a2
  obtain ⟨m3, rfl, _, b3, b4⟩ := AM.adInt Tryd.underlying3 a3
  obtain ⟨m4, rfl, _⟩ := AM.adInt Tryd.underlying3 a4
  simp [IntKind.min, IntKind.max, IntKind.signed, IntKind.bits] at b1 b2 b3 b4
  exact ⟨⟨(m1, m2, m3, m4), ⟨b1, b2⟩, b3, b4⟩, rfl⟩
theorem ones {α : Type} : ∀ l : List α, (l.map fun _ => (1 : Nat)).sum = l.length
  | [] => rfl
  | a :: l => by rw [List.map_cons, List.sum_cons, ones l, List.length_cons]; omega
/-- The door's own heap meets the condition. -/
theorem door_met (os : Os) (args : Array Value) : laidMetH Tryd.prog laidL ((World.doorLaid Tryd.prog 400 os).forCall (fun _ _ => 0) ⟨#[], args, []⟩).memory :=
  laidMetH_of_parts3 (fuel := 8) (laidMet_of_run' 8 (by kernel_rfl) (by kernel_rfl)) (by kernel_rfl) (by kernel_rfl)
theorem lifted (os : Os) (started : os.Started) (H : Type) (enc : TypeId × Value → H) (F : Stop.Interp) :
    ReturnsInHanded {} Tryd.checked os 13 .any (fun w args => ((Rows.OpenSpec.upto Rows.cellPlaysSpec).pre enc Tryd.prog Tryd.f13 [] false w args ∧ laidMetH Tryd.prog laidL w) ∧ sizedMet enc Tryd.prog Tryd.f13 (Rows.OpenSpec.upto Rows.cellPlaysSpec) false w args)
      (((Rows.OpenSpec.upto Rows.cellPlaysSpec).at F).post enc Tryd.prog Tryd.f13 false true false false) := by
  refine cond_and (C := Tryd.checked) (s := Rows.OpenSpec.upto Rows.cellPlaysSpec) (k := Rows.uptoSmall) rfl (X := fun w _ => laidMetH Tryd.prog laidL w) (fun _ _ _ hh h => h.of_heap hh) own started (by kernel_rfl) Tryd.func13
    (cond_wit (enc := enc) (C := Tryd.checked) (os := os) (s := Rows.OpenSpec.upto Rows.cellPlaysSpec) (k := Rows.uptoSmall) rfl (X := fun w _ => laidMetH Tryd.prog laidL w) false (World.doorLaid Tryd.prog 400 os) #[.int .i64 0, .int .i64 0, .slice none 0 0] 8 rfl (World.shaped_of_RefB (by kernel_rfl) (by kernel_rfl)) (by kernel_rfl) (x := ([.lit (.int .i64 0), .lit (.int .i64 0), .nil], [], [])) (by kernel_rfl) rfl (by kernel_rfl) (by kernel_rfl) (door_met os _)) ?_
  intro W base args ds gs before hval0 hW _ hcond hL _
  have hval : ∀ (j : Nat) t v, Tryd.f13.params[j]? = some t → args[j]? = some v → Value.okWide Tryd.prog W .any base t v := hval0
  have hW' := hW
  have hlt := hW.lt
  obtain ⟨p, q, hA0, hV, rfl, hfz, hnd⟩ := hW
  have hA : DataW.TrodAll enc Tryd.prog W 0 (fun _ => true) true Tryd.f13.params.toList args.toList ds p := hA0
  rw [Tryd.params13] at hA hval
  obtain ⟨v0, vs0, d0, ds0, p0, q0, hargs0, rfl, rfl, h0, r0⟩ := trodAll_cons hA
  obtain ⟨v1, vs1, d1, ds1, p1, q1, hargs1, rfl, rfl, h1, r1⟩ := trodAll_cons r0
  obtain ⟨v2, vs2, d2, ds2, p2, q2, hargs2, rfl, rfl, h2, r2⟩ := trodAll_cons r1
  obtain ⟨rfl, rfl, rfl⟩ := trodAll_nil r2
  subst hargs2
  subst hargs1
  obtain rfl : args = #[v0, v1, v2] := by cases args; simp_all
  obtain ⟨rfl, rfl⟩ := trodVars_none hV
  obtain ⟨β_0, R_0⟩ := AM.roT (P := Tryd.prog) (G := 1) (by decide) (AM.tabIn (ns := tabN) gTab tTab Tryd.underlying153 Tryd.underlying5 (by kernel_rfl) (by kernel_rfl) rfl (by kernel_rfl) hL)
  generalize hh0 : AM.heapT Tryd.prog 1 (tabN.map (AM.AVal.int .u8 ·)) = h_0 at R_0
  have hg_0 : h_0.g ≤ h_0.n := by rw [← hh0]; exact Nat.le_refl _
  have gg_0 : h_0.g = 1 := by rw [← hh0]; rfl
  have cc_0 : h_0.C = AM.compC Tryd.prog := by rw [← hh0]; rfl
  have T_0 : Pg.TabR h_0 := by rw [← hh0]; exact ⟨by rw [AM.heapT_get, if_pos rfl], by decide⟩
  obtain ⟨n0, rfl, rfl, rfl, w0⟩ := open_int Tryd.underlying3 (hval 0 3 v0 rfl rfl) h0
  obtain ⟨n1, rfl, rfl, rfl, w1⟩ := open_int Tryd.underlying3 (hval 1 3 v1 rfl rfl) h1
  obtain ⟨h_1, β_1, av2, acs2, R_1, G_1, hg_1, rv2, ad2, ca2⟩ := AM.argIn (F := 8) (by kernel_rfl) (hval 2 92 v2 rfl rfl) h2 R_0 hg_0
  have gg_1 : h_1.g = 1 := G_1.g.trans gg_0
  have cc_1 : h_1.C = AM.compC Tryd.prog := G_1.ext.1.2.trans cc_0
  have T_1 : Pg.TabR h_1 := ⟨(G_1.get 0 T_0.2).trans T_0.1, Nat.lt_of_lt_of_le T_0.2 G_1.ext.1.1⟩
  have hk := of_decide_eq_true hcond
  simp only [List.append_nil, List.cons_append, List.nil_append, Rows.uptoBulkAll] at hk
  have c97 : Tryd.prog.cellsOf 97 = 4 := by kernel_rfl
  obtain ⟨w2', hv2, os', sl1, _⟩ := AM.SlIn.ofRows (F := 7) (enc := fun o : Op4 => Pg.encO4 o.1) Tryd.underlying92 h2 ad2 (fun row x _ a => opRow a)
  obtain ⟨w2'', hv2', l2, sr, hw2⟩ := AM.SlR.ofW (F := 7) (bulk H) (fun _ => 1) Tryd.underlying92 ad2 (R := fun (a : Op4) row => row = Pg.encO4 a.1) (fun row x _ a => by
    obtain ⟨b, hb⟩ := opRow a
    exact ⟨b, hb, one_le x⟩)
  have hll : os'.length = l2.length := by
    have e1 := sl1.len h_1
    have e2 := sr.len h_1
    have e3 : w2' = w2'' := by rw [hv2] at hv2'; exact (List.cons.inj hv2').1
    rw [e3, e2] at e1
    injection e1 with e1; injection e1 with e1 _; injection e1 with _ e1; omega
  have hs2 := ones l2
  have hw3 : (l2.map fun _ => (1 : Nat)).sum + 1 ≤ Rows.uptoBulk d2 := hw2
  rw [hs2] at hw3
  rw [c97] at sl1
  have sl2 := AM.SlIn.map (enc := Pg.encO4) (g := fun o : Op4 => o.1) sl1
  obtain rfl : av2 = w2' := by
    rcases ca2 with e | e
    · subst e
      simp only [AM.vrel] at rv2
      obtain ⟨cs, e1, _⟩ := rv2
      subst e1
      have := hval 2 92 _ rfl rfl
      obtain ⟨a0, len, cap, e2⟩ := okWide_slice Tryd.underlying92 this
      cases e2
    · rw [hv2] at e; exact (List.cons.inj e).1.symm
  have hbo : ∀ o, o ∈ os'.map (fun o : Op4 => o.1) → (-9223372036854775808 ≤ o.2.1 ∧ o.2.1 ≤ 9223372036854775807) ∧ -9223372036854775808 ≤ o.2.2.1 ∧ o.2.2.1 ≤ 9223372036854775807 := fun o ho => by
    obtain ⟨y, _, rfl⟩ := List.mem_map.1 ho
    exact y.2
  refine (AM.calls_of AmGJ.ok ((Pg.lawCellPlays T_1 sl2 (by rw [List.length_map]; omega) hbo n0 n1).mono fun _ _ q => q.2) R_1.rel ⟨gg_1.trans (by kernel_rfl), cc_1⟩ (AM.vrels_cons_cons.2 ⟨by simp [AM.vrel], AM.vrels_cons_cons.2 ⟨by simp [AM.vrel], AM.vrels_cons_cons.2 ⟨rv2, by simp [AM.vrels]⟩⟩⟩) (fun id _ => R_1.own id) (fun r h' e => e)).mono fun e W' ⟨he, hg, hk5⟩ => ?_
  subst he
  exact ⟨_, rfl, post_of_same (pv := []) hW' (fun _ _ _ => (trodAll_cons_mk (shut_bool Tryd.underlying4 _) trodAll_mk0))
    (fun sp hs => AM.trodAll_stays (ts := Tryd.f13.params.toList) laid hk5 readable hA0 (fun x hx => hlt x (List.mem_append_left _ hx)) (fun x hx => hs x (List.mem_append_left _ hx)))
    (fun _ _ => rfl) rfl (hg.frame _) hg.2.1 (ok_one (by kernel_rfl) rfl (okWide_bool_mk Tryd.underlying4 _))⟩
theorem over : Rows.CellPlaysUptoSaid :=
  OpenClaim.holds_of_cond 13 Tryd.f13 rfl rfl rfl rfl rfl rfl rfl ⟨rfl, rfl, rfl, rfl, rfl⟩ rfl rfl rfl rfl rfl (by kernel_rfl) Tryd.func13 (by kernel_rfl)
    (of_decide_eq_true (by kernel_rfl)) (by unfold Func.isWrapper; first | (rw [if_pos (by decide +kernel)]; kernel_rfl) | (rw [if_neg (by decide +kernel)]; exact ⟨rfl, rfl⟩))
    (fun os started H enc _ F => lifted os started H enc F)
/-- The statement: the card. -/
theorem proved : Rows.CellPlaysUptoCardSaid :=
  Claim7.holds_tied_plain_at .later [] [.data] true (true, "e82d44980a5214c7c5e2d7cfb47ac0adc0f90f57c40785cffd2d51d451459c4f") false
    over (fun _ h => by cases h) (by kernel_rfl) (fun _ h => by cases h) cellPlaysUpto_row_tie rfl ⟨rfl, rfl⟩ (by kernel_rfl) rfl
    (fun f fn hf hfn => by
      obtain rfl : f = 13 := Option.some.inj ((show Tryd.prog.funcNamed "treadle/treadlelaw07.CellPlays" = some 13 by kernel_rfl).symm.trans hf) |>.symm
      obtain rfl : fn = Tryd.f13 := (Option.some.inj (Tryd.func13.symm.trans hfn)).symm
      exact ⟨by kernel_rfl, fun j t ht => by
        rw [Tryd.params13] at ht
        have hm : t ∈ [3, 3, 92] := by simpa using Array.mem_of_getElem? ht
        have hall : ([3, 3, 92].all fun u => !Tryd.prog.wantsStandIn u) = true := by kernel_rfl
        exact (show Tryd.prog.wantsStandIn t = false by simpa using List.all_eq_true.1 hall t hm)⟩)
    (by kernel_rfl)
end Go.Proofs.YthillgheddpmhaaDoor.cellPlays
