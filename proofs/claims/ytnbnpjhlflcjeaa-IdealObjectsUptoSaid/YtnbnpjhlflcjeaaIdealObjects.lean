/-
  The law IdealObjects holds: whatever the arguments are, of bulk at most 1048576, the call returns true, and the arguments read as they did.
-/
import Derived.Test.YtnbnpjhlflcjeaaBX12
import Derived.Test.YtnbnpjhlflcjeaaRows
import Derived.WalkKit
import Derived.ProofKit
import Derived.OpenShut
import Derived.JoinedCond
namespace Go.Proofs.Ytnbnpjhlflcjeaa.idealObjects
open Go.ChangeShapes Go.WideShapes Go.ChangeAt Go.RowKit
set_option linter.unusedVariables false
set_option linter.unusedSimpArgs false
theorem own : ownKnob Try.prog.godebug = none := by kernel_rfl
theorem laid : laidOutB Try.prog = true := by kernel_rfl
theorem readable : ∀ t, t ∈ Try.f8.params.toList → Try.prog.readableRec t = true ∧ t < Try.prog.types.size := by
  intro t ht
  rw [Try.params8] at ht
  have ht2 : t = 5 ∨ t = 51 ∨ t = 51 := by simpa using ht
  rcases ht2 with rfl | rfl | rfl <;> exact ⟨by kernel_rfl, of_decide_eq_true (by kernel_rfl)⟩
theorem bulk (H : Type) : AM.Bulk H Rows.uptoBulk Rows.uptoBulkAll :=
  ⟨by simp [Rows.uptoBulkAll], fun _ _ => by simp [Rows.uptoBulkAll], fun _ _ => by simp [Rows.uptoBulk], fun _ => by simp [Rows.uptoBulk], fun _ _ => by simp [Rows.uptoBulk], fun _ => by simp [Rows.uptoBulk], by simp [Rows.uptoBulk]⟩
theorem one_le {H : Type} (d : DataW H) : 1 ≤ Rows.uptoBulk d := by
  cases d with
  | lit l => cases l <;> simp [Rows.uptoBulk]
  | nil => simp [Rows.uptoBulk]
  | ptr d => simp [Rows.uptoBulk]
  | slice elems spare => simp [Rows.uptoBulk]
  | agg parts => simp [Rows.uptoBulk]
  | iface t d => simp [Rows.uptoBulk]
  | map entries => simp [Rows.uptoBulk]
  | held h => simp [Rows.uptoBulk]
set_option maxRecDepth 100000 in
theorem lifted (os : Os) (started : os.Started) (H : Type) (enc : TypeId × Value → H) (F : Stop.Interp) :
    ReturnsInHanded {} Try.checked os 8 .any ((Rows.OpenSpec.upto Rows.idealObjectsSpec).pre6 enc Try.prog Try.f8 Rows.idealObjectsUptoRow.domain false) (((Rows.OpenSpec.upto Rows.idealObjectsSpec).at F).post enc Try.prog Try.f8 false true false false) := by
  refine returnsInHanded_of_cond (C := Try.checked) (s := Rows.OpenSpec.upto Rows.idealObjectsSpec) (k := Rows.uptoSmall) rfl own started (by kernel_rfl) Try.func8
    (OpenSpec.witness (enc := enc) (C := Try.checked) (s := Rows.OpenSpec.upto Rows.idealObjectsSpec) (k := Rows.uptoSmall) rfl false ⟨#[], #[.int .u8 0, .slice none 0 0, .slice none 0 0], []⟩ 8 (by kernel_rfl) (by kernel_rfl) (by kernel_rfl)
      (x := ([.lit (.int .u8 0), .nil, .nil], [], [])) (by kernel_rfl) rfl (by kernel_rfl)) ?_
  intro W base args ds gs before hval0 hW _ hcond _
  have hval : ∀ (j : Nat) t v, Try.f8.params[j]? = some t → args[j]? = some v → Value.okWide Try.prog W .any base t v := hval0
  have hW' := hW
  have hlt := hW.lt
  obtain ⟨p, q, hA0, hV, rfl, hfz, hnd⟩ := hW
  have hA : DataW.TrodAll enc Try.prog W 0 (fun _ => true) true Try.f8.params.toList args.toList ds p := hA0
  rw [Try.params8] at hA hval
  obtain ⟨v0, vs0, d0, ds0, p0, q0, hargs0, rfl, rfl, h0, r0⟩ := trodAll_cons hA
  obtain ⟨v1, vs1, d1, ds1, p1, q1, hargs1, rfl, rfl, h1, r1⟩ := trodAll_cons r0
  obtain ⟨v2, vs2, d2, ds2, p2, q2, hargs2, rfl, rfl, h2, r2⟩ := trodAll_cons r1
  obtain ⟨rfl, rfl, rfl⟩ := trodAll_nil r2
  subst hargs2
  subst hargs1
  obtain rfl : args = #[v0, v1, v2] := by cases args; simp_all
  obtain ⟨rfl, rfl⟩ := trodVars_none hV
  have R_0 := AM.ro0 Try.prog 1 W
  have hg_0 : (AM.heap0 Try.prog 1).g ≤ (AM.heap0 Try.prog 1).n := Nat.le_refl _
  have gg_0 : (AM.heap0 Try.prog 1).g = 1 := rfl
  have cc_0 : (AM.heap0 Try.prog 1).C = AM.compC Try.prog := rfl
  obtain ⟨n0, rfl, rfl, rfl, w0⟩ := open_int Try.underlying5 (hval 0 5 v0 rfl rfl) h0
  obtain ⟨h_1, β_1, av1, acs1, R_1, G_1, hg_1, rv1, ad1, ca1⟩ := AM.argIn (F := 8) (by kernel_rfl) (hval 1 51 v1 rfl rfl) h1 R_0 hg_0
  have gg_1 : h_1.g = 1 := G_1.g.trans gg_0
  have cc_1 : h_1.C = AM.compC Try.prog := G_1.ext.1.2.trans cc_0
  obtain ⟨h_2, β_2, av2, acs2, R_2, G_2, hg_2, rv2, ad2, ca2⟩ := AM.argIn (F := 8) (by kernel_rfl) (hval 2 51 v2 rfl rfl) h2 R_1 hg_1
  have gg_2 : h_2.g = 1 := G_2.g.trans gg_1
  have cc_2 : h_2.C = AM.compC Try.prog := G_2.ext.1.2.trans cc_1
  have rv1 := AM.vrel.mono G_2.ext rv1
  have ad1 := AM.AD.mono G_2.ext.1.1 G_2.get _ _ _ _ ad1
  have hk := of_decide_eq_true hcond
  simp only [List.append_nil, List.cons_append, List.nil_append, Rows.uptoBulkAll] at hk
  obtain ⟨vv, hvv, la, LA, hba, hwa⟩ := AM.SlIn.ofW (bulk H) Try.underlying51 Try.underlying5 (by kernel_rfl) (F := 6) ad1
  obtain ⟨a1', len1', cap1', rfl⟩ := okWide_slice Try.underlying51 (hval 1 51 v1 rfl rfl)
  obtain rfl : av1 = vv := by
    rcases ca1 with e | e
    · subst e; simp [AM.vrel] at rv1
    · rw [e] at hvv; cases hvv; rfl
  obtain ⟨vw, hvw, lb, LB, hbb, hwb⟩ := AM.SlIn.ofW (bulk H) Try.underlying51 Try.underlying5 (by kernel_rfl) (F := 6) ad2
  obtain ⟨a2', len2', cap2', rfl⟩ := okWide_slice Try.underlying51 (hval 2 51 v2 rfl rfl)
  obtain rfl : av2 = vw := by
    rcases ca2 with e | e
    · subst e; simp [AM.vrel] at rv2
    · rw [e] at hvw; cases hvw; rfl
  have mx8 : IntKind.u8.max = 255 := by decide
  have mn8 : IntKind.u8.min = 0 := by decide
  rw [mx8, mn8] at hba hbb
  have hx : 0 ≤ n0 ∧ n0 ≤ 255 := by simpa [Lit.wf, IntKind.min, IntKind.max, IntKind.signed, IntKind.bits] using w0
  have hla : la.length ≤ 1048576 := by omega
  have hlb : lb.length ≤ 1048576 := by omega
  refine (AM.calls_of AmGB.ok (Id.lawObjects LA LB hba hbb hla hlb n0 hx) R_2.rel ⟨gg_2.trans (by kernel_rfl), cc_2⟩ (AM.vrels_cons_cons.2 ⟨by simp [AM.vrel], AM.vrels_cons_cons.2 ⟨rv1, AM.vrels_cons_cons.2 ⟨rv2, by simp [AM.vrels]⟩⟩⟩) (fun id _ => R_2.own id) (fun r h' e => e)).mono fun e W' ⟨he, hg, hk⟩ => ?_
  subst he
  exact ⟨_, rfl, post_of_same (pv := []) hW' (fun _ _ _ => (trodAll_cons_mk (shut_bool Try.underlying4 _) trodAll_mk0))
    (fun sp hs => AM.trodAll_stays (ts := Try.f8.params.toList) laid hk readable hA0 (fun x hx => hlt x (List.mem_append_left _ hx)) (fun x hx => hs x (List.mem_append_left _ hx)))
    (fun _ _ => rfl) rfl (hg.frame _) hg.2.1 (ok_one (by kernel_rfl) rfl (okWide_bool_mk Try.underlying4 _))⟩
theorem over : Rows.idealObjectsUptoRow.holds Try.pinned (Rows.OpenSpec.upto Rows.idealObjectsSpec) :=
  OpenClaim.holds_of_cond 8 Try.f8 rfl rfl rfl rfl rfl rfl rfl ⟨rfl, rfl, rfl, rfl, rfl⟩ rfl rfl rfl rfl rfl (by kernel_rfl) Try.func8 (by kernel_rfl)
    (of_decide_eq_true (by kernel_rfl)) (by unfold Func.isWrapper; first | (rw [if_pos (by decide +kernel)]; kernel_rfl) | (rw [if_neg (by decide +kernel)]; exact ⟨rfl, rfl⟩))
    (fun os started H enc _ F => lifted os started H enc F)
/-- The statement. -/
theorem proved : Rows.IdealObjectsUptoSaid :=
  over
end Go.Proofs.Ytnbnpjhlflcjeaa.idealObjects
