/-
  The law IdealLate holds: whatever the arguments are, of bulk at most 1048576, the call returns true, and the arguments read as they did.
-/
import Derived.Test.YtnbnpjhlflcjeaaTX12
import Derived.Test.YtnbnpjhlflcjeaaRows
import Derived.WalkKit
import Derived.ProofKit
import Derived.OpenShut
import Derived.JoinedCond
namespace Go.Proofs.Ytnbnpjhlflcjeaa.idealLate
open Go.ChangeShapes Go.WideShapes Go.ChangeAt Go.RowKit
set_option linter.unusedVariables false
set_option linter.unusedSimpArgs false
theorem own : ownKnob Try.prog.godebug = none := by kernel_rfl
theorem laid : laidOutB Try.prog = true := by kernel_rfl
theorem readable : ∀ t, t ∈ Try.f7.params.toList → Try.prog.readableRec t = true ∧ t < Try.prog.types.size := by
  intro t ht
  rw [Try.params7] at ht
  have ht2 : t = 51 := by simpa using ht
  rcases ht2 with rfl <;> exact ⟨by kernel_rfl, of_decide_eq_true (by kernel_rfl)⟩
theorem bulk (H : Type) : AM.Bulk H Rows.uptoBulk Rows.uptoBulkAll :=
  ⟨by simp [Rows.uptoBulkAll], fun _ _ => by simp [Rows.uptoBulkAll], fun _ _ => by simp [Rows.uptoBulk], fun _ => by simp [Rows.uptoBulk], fun _ _ => by simp [Rows.uptoBulk], fun _ => by simp [Rows.uptoBulk], by simp [Rows.uptoBulk]⟩
theorem one_le {H : Type} (d : DataW H) : 1 ≤ Rows.uptoBulk d := by
  cases d with
  | lit l => cases l <;> simp [Rows.uptoBulk]
  | nil => simp [Rows.uptoBulk]
  | ptr d => simp [Rows.uptoBulk]
  | slice elems spare => simp [Rows.uptoBulk]
  | agg parts => simp [Rows.uptoBulk]
  | iface t d => simp [Rows.uptoBulk]
  | map entries => simp [Rows.uptoBulk]
  | held h => simp [Rows.uptoBulk]
set_option maxRecDepth 100000 in
theorem lifted (os : Os) (started : os.Started) (H : Type) (enc : TypeId × Value → H) (F : Stop.Interp) :
    ReturnsInHanded {} Try.checked os 7 .any ((Rows.OpenSpec.upto Rows.idealLateSpec).pre6 enc Try.prog Try.f7 Rows.idealLateUptoRow.domain false) (((Rows.OpenSpec.upto Rows.idealLateSpec).at F).post enc Try.prog Try.f7 false true false false) := by
  refine returnsInHanded_of_cond (C := Try.checked) (s := Rows.OpenSpec.upto Rows.idealLateSpec) (k := Rows.uptoSmall) rfl own started (by kernel_rfl) Try.func7
    (OpenSpec.witness (enc := enc) (C := Try.checked) (s := Rows.OpenSpec.upto Rows.idealLateSpec) (k := Rows.uptoSmall) rfl false ⟨#[], #[.slice none 0 0], []⟩ 8 (by kernel_rfl) (by kernel_rfl) (by kernel_rfl)
      (x := ([.nil], [], [])) (by kernel_rfl) rfl (by kernel_rfl)) ?_
  intro W base args ds gs before hval0 hW _ hcond _
  have hval : ∀ (j : Nat) t v, Try.f7.params[j]? = some t → args[j]? = some v → Value.okWide Try.prog W .any base t v := hval0
  have hW' := hW
  have hlt := hW.lt
  obtain ⟨p, q, hA0, hV, rfl, hfz, hnd⟩ := hW
  have hA : DataW.TrodAll enc Try.prog W 0 (fun _ => true) true Try.f7.params.toList args.toList ds p := hA0
  rw [Try.params7] at hA hval
  obtain ⟨v0, vs0, d0, ds0, p0, q0, hargs0, rfl, rfl, h0, r0⟩ := trodAll_cons hA
  obtain ⟨rfl, rfl, rfl⟩ := trodAll_nil r0
  obtain rfl : args = #[v0] := by cases args; simp_all
  obtain ⟨rfl, rfl⟩ := trodVars_none hV
  have R_0 := AM.ro0 Try.prog 1 W
  have hg_0 : (AM.heap0 Try.prog 1).g ≤ (AM.heap0 Try.prog 1).n := Nat.le_refl _
  have gg_0 : (AM.heap0 Try.prog 1).g = 1 := rfl
  have cc_0 : (AM.heap0 Try.prog 1).C = AM.compC Try.prog := rfl
  obtain ⟨h_1, β_1, av0, acs0, R_1, G_1, hg_1, rv0, ad0, ca0⟩ := AM.argIn (F := 8) (by kernel_rfl) (hval 0 51 v0 rfl rfl) h0 R_0 hg_0
  have gg_1 : h_1.g = 1 := G_1.g.trans gg_0
  have cc_1 : h_1.C = AM.compC Try.prog := G_1.ext.1.2.trans cc_0
  have hk := of_decide_eq_true hcond
  simp only [List.append_nil, List.cons_append, List.nil_append, Rows.uptoBulkAll] at hk
  obtain ⟨vv, hvv, l, L, hb, hw⟩ := AM.SlIn.ofW (bulk H) Try.underlying51 Try.underlying5 (by kernel_rfl) (F := 6) ad0
  obtain ⟨a', len', cap', rfl⟩ := okWide_slice Try.underlying51 (hval 0 51 v0 rfl rfl)
  obtain rfl : av0 = vv := by
    rcases ca0 with e | e
    · subst e; simp [AM.vrel] at rv0
    · rw [e] at hvv; cases hvv; rfl
  have mx8 : IntKind.u8.max = 255 := by decide
  have mn8 : IntKind.u8.min = 0 := by decide
  rw [mx8, mn8] at hb
  have hl : l.length ≤ 1048576 := by omega
  refine (AM.calls_of AmGT.ok (Id.lawLate L hb hl) R_1.rel ⟨gg_1.trans (by kernel_rfl), cc_1⟩ (AM.vrels_cons_cons.2 ⟨rv0, by simp [AM.vrels]⟩) (fun id _ => R_1.own id) (fun r h' e => e)).mono fun e W' ⟨he, hg, hk⟩ => ?_
  subst he
  exact ⟨_, rfl, post_of_same (pv := []) hW' (fun _ _ _ => (trodAll_cons_mk (shut_bool Try.underlying4 _) trodAll_mk0))
    (fun sp hs => AM.trodAll_stays (ts := Try.f7.params.toList) laid hk readable hA0 (fun x hx => hlt x (List.mem_append_left _ hx)) (fun x hx => hs x (List.mem_append_left _ hx)))
    (fun _ _ => rfl) rfl (hg.frame _) hg.2.1 (ok_one (by kernel_rfl) rfl (okWide_bool_mk Try.underlying4 _))⟩
theorem over : Rows.idealLateUptoRow.holds Try.pinned (Rows.OpenSpec.upto Rows.idealLateSpec) :=
  OpenClaim.holds_of_cond 7 Try.f7 rfl rfl rfl rfl rfl rfl rfl ⟨rfl, rfl, rfl, rfl, rfl⟩ rfl rfl rfl rfl rfl (by kernel_rfl) Try.func7 (by kernel_rfl)
    (of_decide_eq_true (by kernel_rfl)) (by unfold Func.isWrapper; first | (rw [if_pos (by decide +kernel)]; kernel_rfl) | (rw [if_neg (by decide +kernel)]; exact ⟨rfl, rfl⟩))
    (fun os started H enc _ F => lifted os started H enc F)
/-- The statement. -/
theorem proved : Rows.IdealLateUptoSaid :=
  over
end Go.Proofs.Ytnbnpjhlflcjeaa.idealLate
