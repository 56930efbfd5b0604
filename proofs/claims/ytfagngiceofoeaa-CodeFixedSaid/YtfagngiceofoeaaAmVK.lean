/-
  The machine's program stands for the seat's: function by function.
-/
import Derived.Test.YtfagngiceofoeaaAmVG
import Derived.Test.YtfagngiceofoeaaAmLift
import Derived.Test.YtfagngiceofoeaaRows
import Derived.KernelRfl
namespace Go.Proofs.Ytfagngiceofoeaa.AmGV
open Go Go.AM
set_option maxRecDepth 100000
def AP : AProg := (.node none (.node none (.node none (.node none .nil (.node (some A23) (.node (some A39) .nil .nil) .nil)) (.node none (.node (some A19) (.node (some A35) .nil .nil) .nil) .nil)) (.node none (.node (some A9) .nil (.node none (.node (some A41) .nil .nil) .nil)) (.node (some A13) (.node (some A21) (.node (some A37) .nil .nil) .nil) (.node (some A29) (.node (some A45) .nil .nil) .nil)))) (.node none (.node none (.node none (.node (some A16) .nil .nil) (.node none (.node (some A40) .nil .nil) .nil)) (.node (some A12) (.node (some A20) (.node (some A36) .nil .nil) .nil) (.node (some A28) .nil .nil))) (.node none (.node (some A10) (.node (some A18) (.node (some A34) .nil .nil) .nil) (.node none (.node (some A42) .nil .nil) .nil)) (.node (some A14) (.node (some A22) .nil .nil) .nil))))
def APL : List (Nat × AFun) := [(9, A9), (10, A10), (12, A12), (13, A13), (14, A14), (16, A16), (18, A18), (19, A19), (20, A20), (21, A21), (22, A22), (23, A23), (28, A28), (29, A29), (34, A34), (35, A35), (36, A36), (37, A37), (39, A39), (40, A40), (41, A41), (42, A42), (45, A45)]
theorem ap : AP = ofList APL := by kernel_rfl
theorem c9 : cFun Try.prog Try.f9 = some A9 := by kernel_rfl
theorem c10 : cFun Try.prog Try.f10 = some A10 := by kernel_rfl
theorem c12 : cFun Try.prog Try.f12 = some A12 := by kernel_rfl
theorem c13 : cFun Try.prog Try.f13 = some A13 := by kernel_rfl
theorem c14 : cFun Try.prog Try.f14 = some A14 := by kernel_rfl
theorem c16 : cFun Try.prog Try.f16 = some A16 := by kernel_rfl
theorem c18 : cFun Try.prog Try.f18 = some A18 := by kernel_rfl
theorem c19 : cFun Try.prog Try.f19 = some A19 := by kernel_rfl
theorem c20 : cFun Try.prog Try.f20 = some A20 := by kernel_rfl
theorem c21 : cFun Try.prog Try.f21 = some A21 := by kernel_rfl
theorem c22 : cFun Try.prog Try.f22 = some A22 := by kernel_rfl
theorem c23 : cFun Try.prog Try.f23 = some A23 := by kernel_rfl
theorem c28 : cFun Try.prog Try.f28 = some A28 := by kernel_rfl
theorem c29 : cFun Try.prog Try.f29 = some A29 := by kernel_rfl
theorem c34 : cFun Try.prog Try.f34 = some A34 := by kernel_rfl
theorem c35 : cFun Try.prog Try.f35 = some A35 := by kernel_rfl
theorem c36 : cFun Try.prog Try.f36 = some A36 := by kernel_rfl
theorem c37 : cFun Try.prog Try.f37 = some A37 := by kernel_rfl
theorem c39 : cFun Try.prog Try.f39 = some A39 := by kernel_rfl
theorem c40 : cFun Try.prog Try.f40 = some A40 := by kernel_rfl
theorem c41 : cFun Try.prog Try.f41 = some A41 := by kernel_rfl
theorem c42 : cFun Try.prog Try.f42 = some A42 := by kernel_rfl
theorem c45 : cFun Try.prog Try.f45 = some A45 := by kernel_rfl
theorem ok : ProgOk Try.prog AP where
  fol := rfl
  fn := by
    rw [ap]
    refine ofList_ok fun p hp => ?_
    simp only [APL, List.mem_cons, List.not_mem_nil, or_false] at hp
    rcases hp with rfl | rfl | rfl | rfl | rfl | rfl | rfl | rfl | rfl | rfl | rfl | rfl | rfl | rfl | rfl | rfl | rfl | rfl | rfl | rfl | rfl | rfl | rfl
    · exact ⟨_, Try.func9, rfl, c9⟩
    · exact ⟨_, Try.func10, rfl, c10⟩
    · exact ⟨_, Try.func12, rfl, c12⟩
    · exact ⟨_, Try.func13, rfl, c13⟩
    · exact ⟨_, Try.func14, rfl, c14⟩
    · exact ⟨_, Try.func16, rfl, c16⟩
    · exact ⟨_, Try.func18, rfl, c18⟩
    · exact ⟨_, Try.func19, rfl, c19⟩
    · exact ⟨_, Try.func20, rfl, c20⟩
    · exact ⟨_, Try.func21, rfl, c21⟩
    · exact ⟨_, Try.func22, rfl, c22⟩
    · exact ⟨_, Try.func23, rfl, c23⟩
    · exact ⟨_, Try.func28, rfl, c28⟩
    · exact ⟨_, Try.func29, rfl, c29⟩
    · exact ⟨_, Try.func34, rfl, c34⟩
    · exact ⟨_, Try.func35, rfl, c35⟩
    · exact ⟨_, Try.func36, rfl, c36⟩
    · exact ⟨_, Try.func37, rfl, c37⟩
    · exact ⟨_, Try.func39, rfl, c39⟩
    · exact ⟨_, Try.func40, rfl, c40⟩
    · exact ⟨_, Try.func41, rfl, c41⟩
    · exact ⟨_, Try.func42, rfl, c42⟩
    · exact ⟨_, Try.func45, rfl, c45⟩
end Go.Proofs.Ytfagngiceofoeaa.AmGV
