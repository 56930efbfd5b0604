/-
  The law IdealSelects holds: whatever the arguments are, of bulk at most 1048576, the call returns true, and the arguments read as they did.
-/
import Derived.Test.YtnbnpjhlflcjeaaSX12
import Derived.Test.YtnbnpjhlflcjeaaRows
import Derived.WalkKit
import Derived.ProofKit
import Derived.OpenShut
import Derived.JoinedCond
namespace Go.Proofs.Ytnbnpjhlflcjeaa.idealSelects
open Go.ChangeShapes Go.WideShapes Go.ChangeAt Go.RowKit
set_option linter.unusedVariables false
set_option linter.unusedSimpArgs false
theorem own : ownKnob Try.prog.godebug = none := by kernel_rfl
theorem laid : laidOutB Try.prog = true := by kernel_rfl
theorem readable : ∀ t, t ∈ Try.f3.params.toList → Try.prog.readableRec t = true ∧ t < Try.prog.types.size := by
  intro t ht
  rw [Try.params3] at ht
  have ht2 : t = 22 ∨ t = 23 ∨ t = 4 := by simpa using ht
  rcases ht2 with rfl | rfl | rfl <;> exact ⟨by kernel_rfl, of_decide_eq_true (by kernel_rfl)⟩
theorem bulk (H : Type) : AM.Bulk H Rows.uptoBulk Rows.uptoBulkAll :=
  ⟨by simp [Rows.uptoBulkAll], fun _ _ => by simp [Rows.uptoBulkAll], fun _ _ => by simp [Rows.uptoBulk], fun _ => by simp [Rows.uptoBulk], fun _ _ => by simp [Rows.uptoBulk], fun _ => by simp [Rows.uptoBulk], by simp [Rows.uptoBulk]⟩
theorem one_le {H : Type} (d : DataW H) : 1 ≤ Rows.uptoBulk d := by
  cases d with
  | lit l => cases l <;> simp [Rows.uptoBulk]
  | nil => simp [Rows.uptoBulk]
  | ptr d => simp [Rows.uptoBulk]
  | slice elems spare => simp [Rows.uptoBulk]
  | agg parts => simp [Rows.uptoBulk]
  | iface t d => simp [Rows.uptoBulk]
  | map entries => simp [Rows.uptoBulk]
  | held h => simp [Rows.uptoBulk]
set_option maxRecDepth 100000 in
theorem lifted (os : Os) (started : os.Started) (H : Type) (enc : TypeId × Value → H) (F : Stop.Interp) :
    ReturnsInHanded {} Try.checked os 3 .any ((Rows.OpenSpec.upto Rows.idealSelectsSpec).pre6 enc Try.prog Try.f3 Rows.idealSelectsUptoRow.domain false) (((Rows.OpenSpec.upto Rows.idealSelectsSpec).at F).post enc Try.prog Try.f3 false true false false) := by
  refine returnsInHanded_of_cond (C := Try.checked) (s := Rows.OpenSpec.upto Rows.idealSelectsSpec) (k := Rows.uptoSmall) rfl own started (by kernel_rfl) Try.func3
    (OpenSpec.witness (enc := enc) (C := Try.checked) (s := Rows.OpenSpec.upto Rows.idealSelectsSpec) (k := Rows.uptoSmall) rfl false ⟨#[], #[.slice none 0 0, .int .u64 0, .bool false], []⟩ 8 (by kernel_rfl) (by kernel_rfl) (by kernel_rfl)
      (x := ([.nil, .lit (.int .u64 0), .lit (.bool false)], [], [])) (by kernel_rfl) rfl (by kernel_rfl)) ?_
  intro W base args ds gs before hval0 hW _ hcond _
  have hval : ∀ (j : Nat) t v, Try.f3.params[j]? = some t → args[j]? = some v → Value.okWide Try.prog W .any base t v := hval0
  have hW' := hW
  have hlt := hW.lt
  obtain ⟨p, q, hA0, hV, rfl, hfz, hnd⟩ := hW
  have hA : DataW.TrodAll enc Try.prog W 0 (fun _ => true) true Try.f3.params.toList args.toList ds p := hA0
  rw [Try.params3] at hA hval
  obtain ⟨v0, vs0, d0, ds0, p0, q0, hargs0, rfl, rfl, h0, r0⟩ := trodAll_cons hA
  obtain ⟨v1, vs1, d1, ds1, p1, q1, hargs1, rfl, rfl, h1, r1⟩ := trodAll_cons r0
  obtain ⟨v2, vs2, d2, ds2, p2, q2, hargs2, rfl, rfl, h2, r2⟩ := trodAll_cons r1
  obtain ⟨rfl, rfl, rfl⟩ := trodAll_nil r2
  subst hargs2
  subst hargs1
  obtain rfl : args = #[v0, v1, v2] := by cases args; simp_all
  obtain ⟨rfl, rfl⟩ := trodVars_none hV
  have R_0 := AM.ro0 Try.prog 1 W
  have hg_0 : (AM.heap0 Try.prog 1).g ≤ (AM.heap0 Try.prog 1).n := Nat.le_refl _
  have gg_0 : (AM.heap0 Try.prog 1).g = 1 := rfl
  have cc_0 : (AM.heap0 Try.prog 1).C = AM.compC Try.prog := rfl
  obtain ⟨h_1, β_1, av0, acs0, R_1, G_1, hg_1, rv0, ad0, ca0⟩ := AM.argIn (F := 8) (by kernel_rfl) (hval 0 22 v0 rfl rfl) h0 R_0 hg_0
  have gg_1 : h_1.g = 1 := G_1.g.trans gg_0
  have cc_1 : h_1.C = AM.compC Try.prog := G_1.ext.1.2.trans cc_0
  obtain ⟨n1, rfl, rfl, rfl, w1⟩ := open_int Try.underlying23 (hval 1 23 v1 rfl rfl) h1
  obtain ⟨n2, rfl, rfl, rfl⟩ := open_bool Try.underlying4 (hval 2 4 v2 rfl rfl) h2
  have hk := of_decide_eq_true hcond
  simp only [List.append_nil, List.cons_append, List.nil_append, Rows.uptoBulkAll] at hk
  obtain ⟨vv, hvv, l, L, hw⟩ := AM.SlIn.ofWB (bulk H) Try.underlying22 Try.underlying4 (by kernel_rfl) (F := 6) ad0
  obtain ⟨a', len', cap', rfl⟩ := okWide_slice Try.underlying22 (hval 0 22 v0 rfl rfl)
  obtain rfl : av0 = vv := by
    rcases ca0 with e | e
    · subst e; simp [AM.vrel] at rv0
    · rw [e] at hvv; cases hvv; rfl
  have hx : 0 ≤ n1 ∧ n1 ≤ 18446744073709551615 := by simpa [Lit.wf, IntKind.min, IntKind.max, IntKind.signed, IntKind.bits] using w1
  have hl : l.length ≤ 1048576 := by omega
  refine (AM.calls_of AmGS.ok (Id.lawSelects L hl n1 hx n2) R_1.rel ⟨gg_1.trans (by kernel_rfl), cc_1⟩ (AM.vrels_cons_cons.2 ⟨rv0, AM.vrels_cons_cons.2 ⟨by simp [AM.vrel], AM.vrels_cons_cons.2 ⟨by simp [AM.vrel], by simp [AM.vrels]⟩⟩⟩) (fun id _ => R_1.own id) (fun r h' e => e)).mono fun e W' ⟨he, hg, hk⟩ => ?_
  subst he
  exact ⟨_, rfl, post_of_same (pv := []) hW' (fun _ _ _ => (trodAll_cons_mk (shut_bool Try.underlying4 _) trodAll_mk0))
    (fun sp hs => AM.trodAll_stays (ts := Try.f3.params.toList) laid hk readable hA0 (fun x hx => hlt x (List.mem_append_left _ hx)) (fun x hx => hs x (List.mem_append_left _ hx)))
    (fun _ _ => rfl) rfl (hg.frame _) hg.2.1 (ok_one (by kernel_rfl) rfl (okWide_bool_mk Try.underlying4 _))⟩
theorem over : Rows.idealSelectsUptoRow.holds Try.pinned (Rows.OpenSpec.upto Rows.idealSelectsSpec) :=
  OpenClaim.holds_of_cond 3 Try.f3 rfl rfl rfl rfl rfl rfl rfl ⟨rfl, rfl, rfl, rfl, rfl⟩ rfl rfl rfl rfl rfl (by kernel_rfl) Try.func3 (by kernel_rfl)
    (of_decide_eq_true (by kernel_rfl)) (by unfold Func.isWrapper; first | (rw [if_pos (by decide +kernel)]; kernel_rfl) | (rw [if_neg (by decide +kernel)]; exact ⟨rfl, rfl⟩))
    (fun os started H enc _ F => lifted os started H enc F)
/-- The statement. -/
theorem proved : Rows.IdealSelectsUptoSaid :=
  over
end Go.Proofs.Ytnbnpjhlflcjeaa.idealSelects
