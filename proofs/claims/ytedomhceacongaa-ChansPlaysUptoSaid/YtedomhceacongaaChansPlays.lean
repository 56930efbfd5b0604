/-
  The law ChansPlays holds: whatever the arguments are, of bulk at most 1048576, the call returns true, and the arguments read as they did.
-/
import Derived.Test.YtedomhceacongaaAmChF
import Derived.Test.YtedomhceacongaaAmRows
import Derived.Test.YtedomhceacongaaAmIn
import Derived.Test.YtedomhceacongaaRows
import Derived.WalkKit
import Derived.ProofKit
import Derived.OpenShut
import Derived.JoinedCond
namespace Go.Proofs.Ytedomhceacongaa.chansPlays
open Go.ChangeShapes Go.WideShapes Go.ChangeAt Go.RowKit
set_option linter.unusedVariables false

theorem own : ownKnob Try.prog.godebug = none := by kernel_rfl
theorem laid : laidOutB Try.prog = true := by kernel_rfl
theorem readable : ∀ t, t ∈ Try.f7.params.toList → Try.prog.readableRec t = true ∧ t < Try.prog.types.size := by
  intro t ht
  rw [Try.params7] at ht
  have ht2 : t = 3 ∨ t = 45 := by simpa using ht
  rcases ht2 with rfl | rfl <;> exact ⟨by kernel_rfl, of_decide_eq_true (by kernel_rfl)⟩
theorem one_le {H : Type} (d : DataW H) : 1 ≤ Rows.uptoBulk d := by
  cases d with
  | lit l => cases l <;> simp [Rows.uptoBulk]
  | nil => simp [Rows.uptoBulk]
  | ptr d => simp [Rows.uptoBulk]
  | slice elems spare => simp [Rows.uptoBulk]
  | agg parts => simp [Rows.uptoBulk]
  | iface t d => simp [Rows.uptoBulk]
  | map entries => simp [Rows.uptoBulk]
  | held h => simp [Rows.uptoBulk]
theorem bulk_len {H : Type} (l : List (DataW H)) : l.length ≤ Rows.uptoBulkAll l := by
  induction l with
  | nil => simp
  | cons d r ih =>
    have := one_le d
    simp only [Rows.uptoBulkAll, List.length_cons]
    omega
/-- What a call of the script is, cell by cell. -/
theorem opRead {H : Type} {enc : TypeId × Value → H} {W : World} : ∀ (fuel : Nat) (cs : List Value) (x : DataW H × List MemPlace), DataW.trod enc Try.prog W 0 (fun _ => true) true fuel 50 cs = some x → ∃ o : Int × Int × Int × Bool, ∀ h β, AM.vrels h β (Ch.encO o) cs := by
  intro fuel cs x hx
  obtain ⟨xs, n, rfl, rfl, hl, hn, hf⟩ := DataW.trod_struct Try.underlying50 hx
  have hl4 : cs.length = 4 := hl.trans (by kernel_rfl)
  match cs, hl4 with
  | [c0, c1, c2, c3], _ =>
    have k3 : Try.prog.cellsOf 3 = 1 := by kernel_rfl
    have k26 : Try.prog.cellsOf 26 = 1 := by kernel_rfl
    have k4 : Try.prog.cellsOf 4 = 1 := by kernel_rfl
    have get : ∀ i, i < 4 → ∃ y, xs[i]? = some y := fun i hi => ⟨_, List.getElem?_eq_getElem (by rw [hn]; exact hi)⟩
    obtain ⟨y0, h0⟩ := get 0 (by omega)
    obtain ⟨y1, h1⟩ := get 1 (by omega)
    obtain ⟨y2, h2⟩ := get 2 (by omega)
    obtain ⟨y3, h3⟩ := get 3 (by omega)
    have f0 := hf 0 _ rfl
    have f1 := hf 1 _ rfl
    have f2 := hf 2 _ rfl
    have f3 := hf 3 _ rfl
    simp only [k3, k26, k4, h0, h1, h2, h3, List.drop_zero, List.drop_succ_cons, List.take_succ_cons, List.take_zero] at f0 f1 f2 f3
    obtain ⟨m0, e0, _, _⟩ := DataW.trod_int Try.underlying3 f0
    obtain ⟨m1, e1, _, _⟩ := DataW.trod_int Try.underlying3 f1
    obtain ⟨m2, e2, _, _⟩ := DataW.trod_int Try.underlying26 f2
    obtain ⟨m3, e3, _⟩ := DataW.trod_bool Try.underlying4 f3
    cases e0; cases e1; cases e2; cases e3
    exact ⟨(m0, m1, m2, m3), fun h β => by simp [Ch.encO, AM.vrels, AM.vrel]⟩

set_option maxRecDepth 100000 in
theorem lifted (os : Os) (started : os.Started) (H : Type) (enc : TypeId × Value → H) (F : Stop.Interp) :
    ReturnsInHanded {} Try.checked os 7 .any ((Rows.OpenSpec.upto Rows.chansPlaysSpec).pre6 enc Try.prog Try.f7 Rows.chansPlaysUptoRow.domain false) (((Rows.OpenSpec.upto Rows.chansPlaysSpec).at F).post enc Try.prog Try.f7 false true false false) := by
  refine returnsInHanded_of_cond (C := Try.checked) (s := Rows.OpenSpec.upto Rows.chansPlaysSpec) (k := Rows.uptoSmall) rfl own started (by kernel_rfl) Try.func7
    (OpenSpec.witness (enc := enc) (C := Try.checked) (s := Rows.OpenSpec.upto Rows.chansPlaysSpec) (k := Rows.uptoSmall) rfl false ⟨#[], #[.int .i64 0, .slice none 0 0], []⟩ 8 (by kernel_rfl) (by kernel_rfl) (by kernel_rfl)
      (x := ([.lit (.int .i64 0), .nil], [], [])) (by kernel_rfl) rfl (by kernel_rfl)) ?_
  intro W base args ds gs before hval0 hW _ hcond _
  have hval : ∀ (j : Nat) t v, Try.f7.params[j]? = some t → args[j]? = some v → Value.okWide Try.prog W .any base t v := hval0
  have hW' := hW
  have hlt := hW.lt
  obtain ⟨p, q, hA0, hV, rfl, hfz, hnd⟩ := hW
  have hA : DataW.TrodAll enc Try.prog W 0 (fun _ => true) true Try.f7.params.toList args.toList ds p := hA0
  rw [Try.params7] at hA hval
  obtain ⟨v0, vs0, d0, ds0, p0, q0, hargs, rfl, rfl, h0, r0⟩ := trodAll_cons hA
  obtain ⟨v1, vs1, d1, ds1, p1, q1, hargs1, rfl, rfl, h1, r1⟩ := trodAll_cons r0
  obtain ⟨rfl, rfl, rfl⟩ := trodAll_nil r1
  subst hargs1
  obtain rfl : args = #[v0, v1] := by cases args; simp_all
  obtain ⟨rfl, rfl⟩ := trodVars_none hV
  obtain ⟨a0, rfl, rfl, rfl, w0⟩ := open_int Try.underlying3 (hval 0 3 v0 rfl rfl) h0
  obtain ⟨vs, real, l, av, ns, R, rv, sl, hd⟩ := AM.rowsIn (en := Ch.encO) (esz := 4) Try.underlying45 (by kernel_rfl) (by omega) (fun _ => rfl) opRead (hval 1 45 v1 rfl rfl) h1 0
  have hlen : ns.length < 1073741820 := by
    have hk := of_decide_eq_true hcond
    rcases hd with ⟨_, rfl⟩ | ⟨el, rest, rfl, hel⟩
    · simp
    · simp only [List.append_nil, List.cons_append, List.nil_append, Rows.uptoBulkAll, Rows.uptoBulk] at hk
      have := bulk_len el
      omega
  refine (AM.calls_of AmGC.ok (Ch.lawPlays sl hlen a0) R (by kernel_rfl) (AM.vrels_cons_cons.2 ⟨by simp [AM.vrel], AM.vrels_cons_cons.2 ⟨rv, by simp [AM.vrels]⟩⟩) (fun id _ => AM.heapIn_own _ _ _ _) (fun r h' e => e)).mono fun e W' ⟨he, hg, hk⟩ => ?_
  subst he
  exact ⟨_, rfl, post_of_same (pv := []) hW' (fun _ _ _ => (trodAll_cons_mk (shut_bool Try.underlying4 _) trodAll_mk0))
    (fun sp hs => AM.trodAll_stays (ts := Try.f7.params.toList) laid hk readable hA0 (fun x hx => hlt x (List.mem_append_left _ hx)) (fun x hx => hs x (List.mem_append_left _ hx)))
    (fun _ _ => rfl) rfl (hg.frame _) hg.2.1 (ok_one (by kernel_rfl) rfl (okWide_bool_mk Try.underlying4 _))⟩

theorem over : Rows.chansPlaysUptoRow.holds Try.pinned (Rows.OpenSpec.upto Rows.chansPlaysSpec) :=
  OpenClaim.holds_of_cond 7 Try.f7 rfl rfl rfl rfl rfl rfl rfl ⟨rfl, rfl, rfl, rfl, rfl⟩ rfl rfl rfl rfl rfl (by kernel_rfl) Try.func7 (by kernel_rfl)
    (of_decide_eq_true (by kernel_rfl)) (by unfold Func.isWrapper; first | (rw [if_pos (by decide +kernel)]; kernel_rfl) | (rw [if_neg (by decide +kernel)]; exact ⟨rfl, rfl⟩))
    (fun os started H enc _ F => lifted os started H enc F)

/-- The statement. -/
theorem proved : Rows.ChansPlaysUptoSaid :=
  over
end Go.Proofs.Ytedomhceacongaa.chansPlays
