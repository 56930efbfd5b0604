/-
  The law CellOwn holds, where the table of the library's package for bits starts as its text lays it: whatever the arguments, the call returns true, and the arguments read as they did.
-/
import Derived.Test.YthillgheddpmhaaDoorHX9
import Derived.Test.YthillgheddpmhaaDoorRows
import Derived.Test.YthillgheddpmhaaDoorCards
import Derived.Test.YthillgheddpmhaaDoorTie
import Derived.WalkKit
import Derived.ProofKit
import Derived.LaidMore
import Derived.OpenShut
import Derived.Stop.Joined
import Derived.SevenTiedAt
namespace Go.Proofs.YthillgheddpmhaaDoor.cellOwn
open Go.ChangeShapes Go.WideShapes Go.ChangeAt Go.RowKit
set_option linter.unusedVariables false
set_option linter.unusedSimpArgs false
set_option maxRecDepth 100000
theorem own : ownKnob Tryd.prog.godebug = none := by kernel_rfl
theorem laid : laidOutB Tryd.prog = true := by kernel_rfl
theorem readable : ∀ t, t ∈ Tryd.f11.params.toList → Tryd.prog.readableRec t = true ∧ t < Tryd.prog.types.size := by
  intro t ht
  rw [Tryd.params11] at ht
  have ht2 : t = 5 ∨ t = 36 := by simpa using ht
  rcases ht2 with rfl | rfl <;> exact ⟨by kernel_rfl, of_decide_eq_true (by kernel_rfl)⟩
abbrev tabN : List Int := [0, 1, 56, 2, 57, 49, 28, 3, 61, 58, 42, 50, 38, 29, 17, 4, 62, 47, 59, 36, 45, 43, 51, 22, 53, 39, 33, 30, 24, 18, 12, 5, 63, 55, 48, 27, 60, 41, 37, 16, 46, 35, 44, 21, 52, 32, 23, 11, 54, 26, 40, 15, 34, 20, 31, 10, 25, 14, 19, 9, 13, 8, 7, 6]
abbrev laidL {H : Type} : List (String × DataW H) := [("math/bits.deBruijn64tab", Rows.laid_math_bits_deBruijn64tab)]
theorem gTab : Tryd.prog.globalNamed "math/bits.deBruijn64tab" = some 0 := by kernel_rfl
theorem tTab : (Tryd.prog.globals[0]?).map (·.type) = some 153 := by kernel_rfl
/-- The door's own heap meets the condition. -/
theorem door_met (os : Os) (args : Array Value) : laidMetH Tryd.prog laidL ((World.doorLaid Tryd.prog 400 os).forCall (fun _ _ => 0) ⟨#[], args, []⟩).memory :=
  laidMetH_of_parts3 (fuel := 8) (laidMet_of_run' 8 (by kernel_rfl) (by kernel_rfl)) (by kernel_rfl) (by kernel_rfl)
theorem lifted (os : Os) (started : os.Started) (H : Type) (enc : TypeId × Value → H) :
    ReturnsInHanded {} Tryd.checked os 11 .any (fun w args => (Rows.cellOwnSpec.pre enc Tryd.prog Tryd.f11 [] false w args ∧ laidMetH Tryd.prog laidL w) ∧ sizedMet enc Tryd.prog Tryd.f11 (OpenSpec.ofChange Rows.cellOwnSpec) false w args)
      (Rows.cellOwnSpec.post enc Tryd.prog Tryd.f11 false true false false) := by
  refine returnsInHanded_of_change_and (C := Tryd.checked) (X := fun w _ => laidMetH Tryd.prog laidL w) (fun _ _ _ hh h => h.of_heap hh) own started (by kernel_rfl) Tryd.func11
    (ChangeSpec.witness_shaped (enc := enc) (C := Tryd.checked) (os := os) (X := fun w _ => laidMetH Tryd.prog laidL w) false (World.doorLaid Tryd.prog 400 os) #[.int .u8 0, .slice none 0 0] 8 rfl (World.shaped_of_RefB (by kernel_rfl) (by kernel_rfl)) (by kernel_rfl) (by kernel_rfl) (by kernel_rfl) (door_met os _)) ?_
  intro W base args ds gs before hval0 hW _ _ hL _
  have hval : ∀ (j : Nat) t v, Tryd.f11.params[j]? = some t → args[j]? = some v → Value.okWide Tryd.prog W .any base t v := hval0
  have hW' := hW
  have hlt := hW.lt
  obtain ⟨p, q, hA0, hV, rfl, hfz, hnd⟩ := hW
  have hA : DataW.TrodAll enc Tryd.prog W 0 (fun _ => true) true Tryd.f11.params.toList args.toList ds p := hA0
  rw [Tryd.params11] at hA hval
  obtain ⟨v0, vs0, d0, ds0, p0, q0, hargs0, rfl, rfl, h0, r0⟩ := trodAll_cons hA
  obtain ⟨v1, vs1, d1, ds1, p1, q1, hargs1, rfl, rfl, h1, r1⟩ := trodAll_cons r0
  obtain ⟨rfl, rfl, rfl⟩ := trodAll_nil r1
  subst hargs1
  obtain rfl : args = #[v0, v1] := by cases args; simp_all
  obtain ⟨rfl, rfl⟩ := trodVars_none hV
  obtain ⟨β_0, R_0⟩ := AM.roT (P := Tryd.prog) (G := 1) (by decide) (AM.tabIn (ns := tabN) gTab tTab Tryd.underlying153 Tryd.underlying5 (by kernel_rfl) (by kernel_rfl) rfl (by kernel_rfl) hL)
  generalize hh0 : AM.heapT Tryd.prog 1 (tabN.map (AM.AVal.int .u8 ·)) = h_0 at R_0
  have hg_0 : h_0.g ≤ h_0.n := by rw [← hh0]; exact Nat.le_refl _
  have gg_0 : h_0.g = 1 := by rw [← hh0]; rfl
  have cc_0 : h_0.C = AM.compC Tryd.prog := by rw [← hh0]; rfl
  have T_0 : Pg.TabR h_0 := by rw [← hh0]; exact ⟨by rw [AM.heapT_get, if_pos rfl], by decide⟩
  obtain ⟨n0, rfl, rfl, rfl, w0⟩ := open_int Tryd.underlying5 (hval 0 5 v0 rfl rfl) h0
  obtain ⟨h_1, β_1, av1, acs1, R_1, G_1, hg_1, rv1, ad1, ca1⟩ := AM.argIn (F := 8) (by kernel_rfl) (hval 1 36 v1 rfl rfl) h1 R_0 hg_0
  have gg_1 : h_1.g = 1 := G_1.g.trans gg_0
  have cc_1 : h_1.C = AM.compC Tryd.prog := G_1.ext.1.2.trans cc_0
  have T_1 : Pg.TabR h_1 := ⟨(G_1.get 0 T_0.2).trans T_0.1, Nat.lt_of_lt_of_le T_0.2 G_1.ext.1.1⟩
  obtain ⟨w1', hv1, zs, sl1, bs1, hm1⟩ := AM.SlIn.ofAD (k := .u8) Tryd.underlying36 Tryd.underlying5 (by kernel_rfl) (hval 1 36 v1 rfl rfl) h1 ad1
  obtain rfl : av1 = w1' := by
    rcases ca1 with e | e
    · subst e
      simp only [AM.vrel] at rv1
      obtain ⟨cs, e1, _⟩ := rv1
      subst e1
      have := hval 1 36 _ rfl rfl
      obtain ⟨a0, len, cap, e2⟩ := okWide_slice Tryd.underlying36 this
      cases e2
    · rw [hv1] at e; exact (List.cons.inj e).1.symm
  have b1 : ∀ x, x ∈ zs → 0 ≤ x ∧ x ≤ 255 := fun x hx => by simpa [IntKind.min, IntKind.max, IntKind.signed, IntKind.bits] using bs1 x hx
  have wb : 0 ≤ n0 ∧ n0 ≤ 255 := by simpa [Lit.wf, IntKind.min, IntKind.max, IntKind.signed, IntKind.bits] using w0
  obtain ⟨w, rfl⟩ : ∃ w : Nat, n0 = w := ⟨n0.toNat, by omega⟩
  refine (AM.calls_of AmGE.ok ((Pg.lawCellOwn T_1 (w := w) (by omega) sl1 b1 hm1).mono fun _ _ q => q.2) R_1.rel ⟨gg_1.trans (by kernel_rfl), cc_1⟩ (AM.vrels_cons_cons.2 ⟨by simp [AM.vrel], AM.vrels_cons_cons.2 ⟨rv1, by simp [AM.vrels]⟩⟩) (fun id _ => R_1.own id) (fun r h' e => e)).mono fun e W' ⟨he, hg, hk⟩ => ?_
  subst he
  exact ⟨_, rfl, post_of_same (pv := []) hW' (fun _ _ _ => (trodAll_cons_mk (shut_bool Tryd.underlying4 _) trodAll_mk0))
    (fun sp hs => AM.trodAll_stays (ts := Tryd.f11.params.toList) laid hk readable hA0 (fun x hx => hlt x (List.mem_append_left _ hx)) (fun x hx => hs x (List.mem_append_left _ hx)))
    (fun _ _ => rfl) rfl (hg.frame _) hg.2.1 (ok_one (by kernel_rfl) rfl (okWide_bool_mk Tryd.underlying4 _))⟩
theorem over : Rows.CellOwnSaid :=
  OpenClaim.holds_of_wide 11 Tryd.f11 rfl rfl rfl rfl rfl rfl rfl ⟨rfl, rfl, rfl, rfl, rfl⟩ rfl rfl rfl rfl rfl (by kernel_rfl) Tryd.func11 (by kernel_rfl)
    (of_decide_eq_true (by kernel_rfl)) (by unfold Func.isWrapper; first | (rw [if_pos (by decide +kernel)]; kernel_rfl) | (rw [if_neg (by decide +kernel)]; exact ⟨rfl, rfl⟩))
    (fun os started H enc _ => lifted os started H enc)
/-- The statement: the card. -/
theorem proved : Rows.CellOwnCardSaid :=
  Claim7.holds_tied_plain_at .later [] [.data] true (true, "e82d44980a5214c7c5e2d7cfb47ac0adc0f90f57c40785cffd2d51d451459c4f") false
    over (fun _ h => by cases h) (by kernel_rfl) (fun _ h => by cases h) cellOwn_row_tie rfl ⟨rfl, rfl⟩ (by kernel_rfl) rfl
    (fun f fn hf hfn => by
      obtain rfl : f = 11 := Option.some.inj ((show Tryd.prog.funcNamed "treadle/treadlelaw07.CellOwn" = some 11 by kernel_rfl).symm.trans hf) |>.symm
      obtain rfl : fn = Tryd.f11 := (Option.some.inj (Tryd.func11.symm.trans hfn)).symm
      exact ⟨by kernel_rfl, fun j t ht => by
        rw [Tryd.params11] at ht
        have hm : t ∈ [5, 36] := by simpa using Array.mem_of_getElem? ht
        have hall : ([5, 36].all fun u => !Tryd.prog.wantsStandIn u) = true := by kernel_rfl
        exact (show Tryd.prog.wantsStandIn t = false by simpa using List.all_eq_true.1 hall t hm)⟩)
    (by kernel_rfl)
end Go.Proofs.YthillgheddpmhaaDoor.cellOwn
