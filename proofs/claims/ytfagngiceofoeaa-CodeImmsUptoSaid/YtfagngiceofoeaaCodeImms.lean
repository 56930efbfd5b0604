/-
  The law CodeImms holds: whatever the arguments are, of bulk at most 1048576, the call returns true, and the arguments read as they did.
-/
import Derived.Test.YtfagngiceofoeaaAmCD2
import Derived.Test.YtfagngiceofoeaaRows
import Derived.WalkKit
import Derived.ProofKit
import Derived.OpenShut
import Derived.JoinedCond
namespace Go.Proofs.Ytfagngiceofoeaa.codeImms
open Go.ChangeShapes Go.WideShapes Go.ChangeAt Go.RowKit
set_option linter.unusedVariables false
set_option linter.unusedSimpArgs false

theorem own : ownKnob Try.prog.godebug = none := by kernel_rfl
theorem laid : laidOutB Try.prog = true := by kernel_rfl
theorem readable : ∀ t, t ∈ Try.f8.params.toList → Try.prog.readableRec t = true ∧ t < Try.prog.types.size := by
  intro t ht
  rw [Try.params8] at ht
  have ht2 : t = 48 ∨ t = 46 := by simpa using ht
  rcases ht2 with rfl | rfl <;> exact ⟨by kernel_rfl, of_decide_eq_true (by kernel_rfl)⟩
theorem bulk (H : Type) : AM.Bulk H Rows.uptoBulk Rows.uptoBulkAll :=
  ⟨by simp [Rows.uptoBulkAll], fun _ _ => by simp [Rows.uptoBulkAll], fun _ _ => by simp [Rows.uptoBulk], fun _ => by simp [Rows.uptoBulk], fun _ _ => by simp [Rows.uptoBulk], fun _ => by simp [Rows.uptoBulk], by simp [Rows.uptoBulk]⟩
theorem one_le {H : Type} (d : DataW H) : 1 ≤ Rows.uptoBulk d := by
  cases d with
  | lit l => cases l <;> simp [Rows.uptoBulk]
  | nil => simp [Rows.uptoBulk]
  | ptr d => simp [Rows.uptoBulk]
  | slice elems spare => simp [Rows.uptoBulk]
  | agg parts => simp [Rows.uptoBulk]
  | iface t d => simp [Rows.uptoBulk]
  | map entries => simp [Rows.uptoBulk]
  | held h => simp [Rows.uptoBulk]

set_option maxRecDepth 100000 in
theorem lifted (os : Os) (started : os.Started) (H : Type) (enc : TypeId × Value → H) (F : Stop.Interp) :
    ReturnsInHanded {} Try.checked os 8 .any ((Rows.OpenSpec.upto Rows.codeImmsSpec).pre6 enc Try.prog Try.f8 Rows.codeImmsUptoRow.domain false) (((Rows.OpenSpec.upto Rows.codeImmsSpec).at F).post enc Try.prog Try.f8 false true false false) := by
  refine returnsInHanded_of_cond (C := Try.checked) (s := Rows.OpenSpec.upto Rows.codeImmsSpec) (k := Rows.uptoSmall) rfl own started (by kernel_rfl) Try.func8
    (OpenSpec.witness (enc := enc) (C := Try.checked) (s := Rows.OpenSpec.upto Rows.codeImmsSpec) (k := Rows.uptoSmall) rfl false ⟨#[], #[.int .u64 0, .int .u16 0], []⟩ 8 (by kernel_rfl) (by kernel_rfl) (by kernel_rfl)
      (x := ([.lit (.int .u64 0), .lit (.int .u16 0)], [], [])) (by kernel_rfl) rfl (by kernel_rfl)) ?_
  intro W base args ds gs before hval0 hW _ hcond _
  have hval : ∀ (j : Nat) t v, Try.f8.params[j]? = some t → args[j]? = some v → Value.okWide Try.prog W .any base t v := hval0
  have hW' := hW
  have hlt := hW.lt
  obtain ⟨p, q, hA0, hV, rfl, hfz, hnd⟩ := hW
  have hA : DataW.TrodAll enc Try.prog W 0 (fun _ => true) true Try.f8.params.toList args.toList ds p := hA0
  rw [Try.params8] at hA hval
  obtain ⟨v0, vs0, d0, ds0, p0, q0, hargs0, rfl, rfl, h0, r0⟩ := trodAll_cons hA
  obtain ⟨v1, vs1, d1, ds1, p1, q1, hargs1, rfl, rfl, h1, r1⟩ := trodAll_cons r0
  obtain ⟨rfl, rfl, rfl⟩ := trodAll_nil r1
  subst hargs1
  obtain rfl : args = #[v0, v1] := by cases args; simp_all
  obtain ⟨rfl, rfl⟩ := trodVars_none hV
  have R_0 := AM.ro0 0 W
  have hg_0 : (AM.heap0 0).g ≤ (AM.heap0 0).n := Nat.le_refl _
  have gg_0 : (AM.heap0 0).g = 0 := rfl
  obtain ⟨n0, rfl, rfl, rfl, w0⟩ := open_int Try.underlying48 (hval 0 48 v0 rfl rfl) h0
  obtain ⟨n1, rfl, rfl, rfl, w1⟩ := open_int Try.underlying46 (hval 1 46 v1 rfl rfl) h1
  have hk := of_decide_eq_true hcond
  simp only [List.append_nil, List.cons_append, List.nil_append, Rows.uptoBulkAll] at hk
  simp only [Lit.wf, Bool.and_eq_true, decide_eq_true_eq] at w0 w1
  have m1 : IntKind.u16.min = 0 := by decide
  have m2 : IntKind.u16.max = 65535 := by decide
  have m3 : IntKind.u64.min = 0 := by decide
  have m4 : IntKind.u64.max = 18446744073709551615 := by decide
  rw [m3, m4] at w0
  rw [m1, m2] at w1
  obtain ⟨k0, rfl⟩ : ∃ k : Nat, n0 = k := ⟨n0.toNat, by omega⟩
  obtain ⟨k1, rfl⟩ : ∃ k : Nat, n1 = k := ⟨n1.toNat, by omega⟩
  refine (AM.calls_of AmGC.ok (Cd.lawImms _ k0 k1 (by omega) (by omega)) R_0.rel (gg_0.trans (by kernel_rfl)) (AM.vrels_cons_cons.2 ⟨by simp [AM.vrel], AM.vrels_cons_cons.2 ⟨by simp [AM.vrel], by simp [AM.vrels]⟩⟩) (fun id _ => R_0.own id) (fun r h' e => e)).mono fun e W' ⟨he, hg, hk⟩ => ?_
  subst he
  exact ⟨_, rfl, post_of_same (pv := []) hW' (fun _ _ _ => (trodAll_cons_mk (shut_bool Try.underlying4 _) trodAll_mk0))
    (fun sp hs => AM.trodAll_stays (ts := Try.f8.params.toList) laid hk readable hA0 (fun x hx => hlt x (List.mem_append_left _ hx)) (fun x hx => hs x (List.mem_append_left _ hx)))
    (fun _ _ => rfl) rfl (hg.frame _) hg.2.1 (ok_one (by kernel_rfl) rfl (okWide_bool_mk Try.underlying4 _))⟩

theorem over : Rows.codeImmsUptoRow.holds Try.pinned (Rows.OpenSpec.upto Rows.codeImmsSpec) :=
  OpenClaim.holds_of_cond 8 Try.f8 rfl rfl rfl rfl rfl rfl rfl ⟨rfl, rfl, rfl, rfl, rfl⟩ rfl rfl rfl rfl rfl (by kernel_rfl) Try.func8 (by kernel_rfl)
    (of_decide_eq_true (by kernel_rfl)) (by unfold Func.isWrapper; first | (rw [if_pos (by decide +kernel)]; kernel_rfl) | (rw [if_neg (by decide +kernel)]; exact ⟨rfl, rfl⟩))
    (fun os started H enc _ F => lifted os started H enc F)

/-- The statement. -/
theorem proved : Rows.CodeImmsUptoSaid :=
  over
end Go.Proofs.Ytfagngiceofoeaa.codeImms
