/-
  The machine's program stands for the seat's: function by function.
-/
import Derived.Test.YtfagngiceofoeaaAmCG
import Derived.Test.YtfagngiceofoeaaAmS
import Derived.Test.YtfagngiceofoeaaRows
import Derived.KernelRfl
namespace Go.Proofs.Ytfagngiceofoeaa.AmGC
open Go Go.AM
set_option maxRecDepth 100000
def AP : AProg := (.node none (.node none (.node (some A3) (.node (some A7) (.node (some A15) (.node (some A31) .nil .nil) .nil) (.node (some A23) (.node (some A39) .nil .nil) .nil)) (.node (some A11) (.node (some A19) (.node (some A35) .nil .nil) .nil) (.node (some A27) (.node (some A43) .nil .nil) .nil))) (.node (some A5) (.node none (.node (some A17) (.node (some A33) .nil .nil) .nil) (.node (some A25) (.node (some A41) .nil .nil) .nil)) (.node (some A13) (.node (some A21) (.node (some A37) .nil .nil) .nil) (.node (some A29) (.node (some A45) .nil .nil) .nil)))) (.node none (.node (some A4) (.node (some A8) (.node (some A16) (.node (some A32) .nil .nil) .nil) (.node (some A24) (.node (some A40) .nil .nil) .nil)) (.node (some A12) (.node (some A20) (.node (some A36) .nil .nil) .nil) (.node (some A28) (.node (some A44) .nil .nil) .nil))) (.node (some A6) (.node (some A10) (.node (some A18) (.node (some A34) .nil .nil) .nil) (.node (some A26) (.node (some A42) .nil .nil) .nil)) (.node (some A14) (.node (some A22) (.node (some A38) .nil .nil) .nil) (.node (some A30) .nil .nil)))))
def APL : List (Nat × AFun) := [(3, A3), (4, A4), (5, A5), (6, A6), (7, A7), (8, A8), (10, A10), (11, A11), (12, A12), (13, A13), (14, A14), (15, A15), (16, A16), (17, A17), (18, A18), (19, A19), (20, A20), (21, A21), (22, A22), (23, A23), (24, A24), (25, A25), (26, A26), (27, A27), (28, A28), (29, A29), (30, A30), (31, A31), (32, A32), (33, A33), (34, A34), (35, A35), (36, A36), (37, A37), (38, A38), (39, A39), (40, A40), (41, A41), (42, A42), (43, A43), (44, A44), (45, A45)]
theorem ap : AP = ofList APL := by kernel_rfl
theorem c3 : cFun Try.prog Try.f3 = some A3 := by kernel_rfl
theorem c4 : cFun Try.prog Try.f4 = some A4 := by kernel_rfl
theorem c5 : cFun Try.prog Try.f5 = some A5 := by kernel_rfl
theorem c6 : cFun Try.prog Try.f6 = some A6 := by kernel_rfl
theorem c7 : cFun Try.prog Try.f7 = some A7 := by kernel_rfl
theorem c8 : cFun Try.prog Try.f8 = some A8 := by kernel_rfl
theorem c10 : cFun Try.prog Try.f10 = some A10 := by kernel_rfl
theorem c11 : cFun Try.prog Try.f11 = some A11 := by kernel_rfl
theorem c12 : cFun Try.prog Try.f12 = some A12 := by kernel_rfl
theorem c13 : cFun Try.prog Try.f13 = some A13 := by kernel_rfl
theorem c14 : cFun Try.prog Try.f14 = some A14 := by kernel_rfl
theorem c15 : cFun Try.prog Try.f15 = some A15 := by kernel_rfl
theorem c16 : cFun Try.prog Try.f16 = some A16 := by kernel_rfl
theorem c17 : cFun Try.prog Try.f17 = some A17 := by kernel_rfl
theorem c18 : cFun Try.prog Try.f18 = some A18 := by kernel_rfl
theorem c19 : cFun Try.prog Try.f19 = some A19 := by kernel_rfl
theorem c20 : cFun Try.prog Try.f20 = some A20 := by kernel_rfl
theorem c21 : cFun Try.prog Try.f21 = some A21 := by kernel_rfl
theorem c22 : cFun Try.prog Try.f22 = some A22 := by kernel_rfl
theorem c23 : cFun Try.prog Try.f23 = some A23 := by kernel_rfl
theorem c24 : cFun Try.prog Try.f24 = some A24 := by kernel_rfl
theorem c25 : cFun Try.prog Try.f25 = some A25 := by kernel_rfl
theorem c26 : cFun Try.prog Try.f26 = some A26 := by kernel_rfl
theorem c27 : cFun Try.prog Try.f27 = some A27 := by kernel_rfl
theorem c28 : cFun Try.prog Try.f28 = some A28 := by kernel_rfl
theorem c29 : cFun Try.prog Try.f29 = some A29 := by kernel_rfl
theorem c30 : cFun Try.prog Try.f30 = some A30 := by kernel_rfl
theorem c31 : cFun Try.prog Try.f31 = some A31 := by kernel_rfl
theorem c32 : cFun Try.prog Try.f32 = some A32 := by kernel_rfl
theorem c33 : cFun Try.prog Try.f33 = some A33 := by kernel_rfl
theorem c34 : cFun Try.prog Try.f34 = some A34 := by kernel_rfl
theorem c35 : cFun Try.prog Try.f35 = some A35 := by kernel_rfl
theorem c36 : cFun Try.prog Try.f36 = some A36 := by kernel_rfl
theorem c37 : cFun Try.prog Try.f37 = some A37 := by kernel_rfl
theorem c38 : cFun Try.prog Try.f38 = some A38 := by kernel_rfl
theorem c39 : cFun Try.prog Try.f39 = some A39 := by kernel_rfl
theorem c40 : cFun Try.prog Try.f40 = some A40 := by kernel_rfl
theorem c41 : cFun Try.prog Try.f41 = some A41 := by kernel_rfl
theorem c42 : cFun Try.prog Try.f42 = some A42 := by kernel_rfl
theorem c43 : cFun Try.prog Try.f43 = some A43 := by kernel_rfl
theorem c44 : cFun Try.prog Try.f44 = some A44 := by kernel_rfl
theorem c45 : cFun Try.prog Try.f45 = some A45 := by kernel_rfl
theorem ok : ProgOk Try.prog AP where
  fol := rfl
  fn := by
    rw [ap]
    refine ofList_ok fun p hp => ?_
    simp only [APL, List.mem_cons, List.not_mem_nil, or_false] at hp
    rcases hp with rfl | rfl | rfl | rfl | rfl | rfl | rfl | rfl | rfl | rfl | rfl | rfl | rfl | rfl | rfl | rfl | rfl | rfl | rfl | rfl | rfl | rfl | rfl | rfl | rfl | rfl | rfl | rfl | rfl | rfl | rfl | rfl | rfl | rfl | rfl | rfl | rfl | rfl | rfl | rfl | rfl | rfl
    · exact ⟨_, Try.func3, rfl, c3⟩
    · exact ⟨_, Try.func4, rfl, c4⟩
    · exact ⟨_, Try.func5, rfl, c5⟩
    · exact ⟨_, Try.func6, rfl, c6⟩
    · exact ⟨_, Try.func7, rfl, c7⟩
    · exact ⟨_, Try.func8, rfl, c8⟩
    · exact ⟨_, Try.func10, rfl, c10⟩
    · exact ⟨_, Try.func11, rfl, c11⟩
    · exact ⟨_, Try.func12, rfl, c12⟩
    · exact ⟨_, Try.func13, rfl, c13⟩
    · exact ⟨_, Try.func14, rfl, c14⟩
    · exact ⟨_, Try.func15, rfl, c15⟩
    · exact ⟨_, Try.func16, rfl, c16⟩
    · exact ⟨_, Try.func17, rfl, c17⟩
    · exact ⟨_, Try.func18, rfl, c18⟩
    · exact ⟨_, Try.func19, rfl, c19⟩
    · exact ⟨_, Try.func20, rfl, c20⟩
    · exact ⟨_, Try.func21, rfl, c21⟩
    · exact ⟨_, Try.func22, rfl, c22⟩
    · exact ⟨_, Try.func23, rfl, c23⟩
    · exact ⟨_, Try.func24, rfl, c24⟩
    · exact ⟨_, Try.func25, rfl, c25⟩
    · exact ⟨_, Try.func26, rfl, c26⟩
    · exact ⟨_, Try.func27, rfl, c27⟩
    · exact ⟨_, Try.func28, rfl, c28⟩
    · exact ⟨_, Try.func29, rfl, c29⟩
    · exact ⟨_, Try.func30, rfl, c30⟩
    · exact ⟨_, Try.func31, rfl, c31⟩
    · exact ⟨_, Try.func32, rfl, c32⟩
    · exact ⟨_, Try.func33, rfl, c33⟩
    · exact ⟨_, Try.func34, rfl, c34⟩
    · exact ⟨_, Try.func35, rfl, c35⟩
    · exact ⟨_, Try.func36, rfl, c36⟩
    · exact ⟨_, Try.func37, rfl, c37⟩
    · exact ⟨_, Try.func38, rfl, c38⟩
    · exact ⟨_, Try.func39, rfl, c39⟩
    · exact ⟨_, Try.func40, rfl, c40⟩
    · exact ⟨_, Try.func41, rfl, c41⟩
    · exact ⟨_, Try.func42, rfl, c42⟩
    · exact ⟨_, Try.func43, rfl, c43⟩
    · exact ⟨_, Try.func44, rfl, c44⟩
    · exact ⟨_, Try.func45, rfl, c45⟩
end Go.Proofs.Ytfagngiceofoeaa.AmGC
