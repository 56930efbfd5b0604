/-
  The machine's program stands for the seat's: function by function.
-/
import Derived.Test.YthillgheddpmhaaDoorAmNG
import Derived.Test.YthillgheddpmhaaDoorAmS
import Derived.Test.YthillgheddpmhaaDoorRows
import Derived.KernelRfl
namespace Go.Proofs.YthillgheddpmhaaDoor.AmGN
open Go Go.AM
set_option maxRecDepth 100000
def AP : AProg := (.node none (.node none (.node none (.node none (.node (some A15) (.node (some A31) (.node (some A63) .nil .nil) .nil) .nil) (.node (some A23) (.node (some A39) .nil .nil) .nil)) (.node none (.node (some A19) (.node (some A35) .nil .nil) (.node none (.node (some A83) .nil .nil) .nil)) (.node (some A27) .nil (.node (some A59) .nil .nil)))) (.node (some A5) (.node none (.node (some A17) (.node (some A33) .nil .nil) (.node none (.node (some A81) .nil .nil) .nil)) (.node (some A25) (.node (some A41) .nil .nil) (.node (some A57) .nil .nil))) (.node none (.node (some A21) (.node (some A37) .nil .nil) (.node none (.node (some A85) .nil .nil) .nil)) (.node (some A29) .nil (.node (some A61) .nil .nil))))) (.node none (.node none (.node (some A8) (.node (some A16) (.node (some A32) (.node (some A64) .nil .nil) (.node (some A96) .nil .nil)) (.node none (.node (some A80) .nil .nil) .nil)) (.node (some A24) (.node (some A40) .nil .nil) .nil)) (.node none (.node (some A20) (.node (some A36) .nil .nil) (.node none (.node (some A84) .nil .nil) .nil)) (.node (some A28) .nil (.node (some A60) .nil .nil)))) (.node none (.node none (.node (some A18) (.node (some A34) .nil .nil) (.node none (.node (some A82) .nil .nil) .nil)) (.node (some A26) .nil (.node (some A58) .nil .nil))) (.node none (.node (some A22) (.node (some A38) (.node (some A70) .nil .nil) (.node (some A102) .nil .nil)) .nil) (.node (some A30) .nil (.node (some A62) .nil .nil))))))
def APL : List (Nat × AFun) := [(5, A5), (8, A8), (15, A15), (16, A16), (17, A17), (18, A18), (19, A19), (20, A20), (21, A21), (22, A22), (23, A23), (24, A24), (25, A25), (26, A26), (27, A27), (28, A28), (29, A29), (30, A30), (31, A31), (32, A32), (33, A33), (34, A34), (35, A35), (36, A36), (37, A37), (38, A38), (39, A39), (40, A40), (41, A41), (57, A57), (58, A58), (59, A59), (60, A60), (61, A61), (62, A62), (63, A63), (64, A64), (70, A70), (80, A80), (81, A81), (82, A82), (83, A83), (84, A84), (85, A85), (96, A96), (102, A102)]
theorem ap : AP = ofList APL := by kernel_rfl
theorem c5 : cFun Tryd.prog Tryd.f5 = some A5 := by kernel_rfl
theorem c8 : cFun Tryd.prog Tryd.f8 = some A8 := by kernel_rfl
theorem c15 : cFun Tryd.prog Tryd.f15 = some A15 := by kernel_rfl
theorem c16 : cFun Tryd.prog Tryd.f16 = some A16 := by kernel_rfl
theorem c17 : cFun Tryd.prog Tryd.f17 = some A17 := by kernel_rfl
theorem c18 : cFun Tryd.prog Tryd.f18 = some A18 := by kernel_rfl
theorem c19 : cFun Tryd.prog Tryd.f19 = some A19 := by kernel_rfl
theorem c20 : cFun Tryd.prog Tryd.f20 = some A20 := by kernel_rfl
theorem c21 : cFun Tryd.prog Tryd.f21 = some A21 := by kernel_rfl
theorem c22 : cFun Tryd.prog Tryd.f22 = some A22 := by kernel_rfl
theorem c23 : cFun Tryd.prog Tryd.f23 = some A23 := by kernel_rfl
theorem c24 : cFun Tryd.prog Tryd.f24 = some A24 := by kernel_rfl
theorem c25 : cFun Tryd.prog Tryd.f25 = some A25 := by kernel_rfl
theorem c26 : cFun Tryd.prog Tryd.f26 = some A26 := by kernel_rfl
theorem c27 : cFun Tryd.prog Tryd.f27 = some A27 := by kernel_rfl
theorem c28 : cFun Tryd.prog Tryd.f28 = some A28 := by kernel_rfl
theorem c29 : cFun Tryd.prog Tryd.f29 = some A29 := by kernel_rfl
theorem c30 : cFun Tryd.prog Tryd.f30 = some A30 := by kernel_rfl
theorem c31 : cFun Tryd.prog Tryd.f31 = some A31 := by kernel_rfl
theorem c32 : cFun Tryd.prog Tryd.f32 = some A32 := by kernel_rfl
theorem c33 : cFun Tryd.prog Tryd.f33 = some A33 := by kernel_rfl
theorem c34 : cFun Tryd.prog Tryd.f34 = some A34 := by kernel_rfl
theorem c35 : cFun Tryd.prog Tryd.f35 = some A35 := by kernel_rfl
theorem c36 : cFun Tryd.prog Tryd.f36 = some A36 := by kernel_rfl
theorem c37 : cFun Tryd.prog Tryd.f37 = some A37 := by kernel_rfl
theorem c38 : cFun Tryd.prog Tryd.f38 = some A38 := by kernel_rfl
theorem c39 : cFun Tryd.prog Tryd.f39 = some A39 := by kernel_rfl
theorem c40 : cFun Tryd.prog Tryd.f40 = some A40 := by kernel_rfl
theorem c41 : cFun Tryd.prog Tryd.f41 = some A41 := by kernel_rfl
theorem c57 : cFun Tryd.prog Tryd.f57 = some A57 := by kernel_rfl
theorem c58 : cFun Tryd.prog Tryd.f58 = some A58 := by kernel_rfl
theorem c59 : cFun Tryd.prog Tryd.f59 = some A59 := by kernel_rfl
theorem c60 : cFun Tryd.prog Tryd.f60 = some A60 := by kernel_rfl
theorem c61 : cFun Tryd.prog Tryd.f61 = some A61 := by kernel_rfl
theorem c62 : cFun Tryd.prog Tryd.f62 = some A62 := by kernel_rfl
theorem c63 : cFun Tryd.prog Tryd.f63 = some A63 := by kernel_rfl
theorem c64 : cFun Tryd.prog Tryd.f64 = some A64 := by kernel_rfl
theorem c70 : cFun Tryd.prog Tryd.f70 = some A70 := by kernel_rfl
theorem c80 : cFun Tryd.prog Tryd.f80 = some A80 := by kernel_rfl
theorem c81 : cFun Tryd.prog Tryd.f81 = some A81 := by kernel_rfl
theorem c82 : cFun Tryd.prog Tryd.f82 = some A82 := by kernel_rfl
theorem c83 : cFun Tryd.prog Tryd.f83 = some A83 := by kernel_rfl
theorem c84 : cFun Tryd.prog Tryd.f84 = some A84 := by kernel_rfl
theorem c85 : cFun Tryd.prog Tryd.f85 = some A85 := by kernel_rfl
theorem c96 : cFun Tryd.prog Tryd.f96 = some A96 := by kernel_rfl
theorem c102 : cFun Tryd.prog Tryd.f102 = some A102 := by kernel_rfl
theorem ok : ProgOk Tryd.prog AP where
  fol := rfl
  fn := by
    rw [ap]
    refine ofList_ok fun p hp => ?_
    simp only [APL, List.mem_cons, List.not_mem_nil, or_false] at hp
    rcases hp with rfl | rfl | rfl | rfl | rfl | rfl | rfl | rfl | rfl | rfl | rfl | rfl | rfl | rfl | rfl | rfl | rfl | rfl | rfl | rfl | rfl | rfl | rfl | rfl | rfl | rfl | rfl | rfl | rfl | rfl | rfl | rfl | rfl | rfl | rfl | rfl | rfl | rfl | rfl | rfl | rfl | rfl | rfl | rfl | rfl | rfl
    · exact ⟨_, Tryd.func5, rfl, c5⟩
    · exact ⟨_, Tryd.func8, rfl, c8⟩
    · exact ⟨_, Tryd.func15, rfl, c15⟩
    · exact ⟨_, Tryd.func16, rfl, c16⟩
    · exact ⟨_, Tryd.func17, rfl, c17⟩
    · exact ⟨_, Tryd.func18, rfl, c18⟩
    · exact ⟨_, Tryd.func19, rfl, c19⟩
    · exact ⟨_, Tryd.func20, rfl, c20⟩
    · exact ⟨_, Tryd.func21, rfl, c21⟩
    · exact ⟨_, Tryd.func22, rfl, c22⟩
    · exact ⟨_, Tryd.func23, rfl, c23⟩
    · exact ⟨_, Tryd.func24, rfl, c24⟩
    · exact ⟨_, Tryd.func25, rfl, c25⟩
    · exact ⟨_, Tryd.func26, rfl, c26⟩
    · exact ⟨_, Tryd.func27, rfl, c27⟩
    · exact ⟨_, Tryd.func28, rfl, c28⟩
    · exact ⟨_, Tryd.func29, rfl, c29⟩
    · exact ⟨_, Tryd.func30, rfl, c30⟩
    · exact ⟨_, Tryd.func31, rfl, c31⟩
    · exact ⟨_, Tryd.func32, rfl, c32⟩
    · exact ⟨_, Tryd.func33, rfl, c33⟩
    · exact ⟨_, Tryd.func34, rfl, c34⟩
    · exact ⟨_, Tryd.func35, rfl, c35⟩
    · exact ⟨_, Tryd.func36, rfl, c36⟩
    · exact ⟨_, Tryd.func37, rfl, c37⟩
    · exact ⟨_, Tryd.func38, rfl, c38⟩
    · exact ⟨_, Tryd.func39, rfl, c39⟩
    · exact ⟨_, Tryd.func40, rfl, c40⟩
    · exact ⟨_, Tryd.func41, rfl, c41⟩
    · exact ⟨_, Tryd.func57, rfl, c57⟩
    · exact ⟨_, Tryd.func58, rfl, c58⟩
    · exact ⟨_, Tryd.func59, rfl, c59⟩
    · exact ⟨_, Tryd.func60, rfl, c60⟩
    · exact ⟨_, Tryd.func61, rfl, c61⟩
    · exact ⟨_, Tryd.func62, rfl, c62⟩
    · exact ⟨_, Tryd.func63, rfl, c63⟩
    · exact ⟨_, Tryd.func64, rfl, c64⟩
    · exact ⟨_, Tryd.func70, rfl, c70⟩
    · exact ⟨_, Tryd.func80, rfl, c80⟩
    · exact ⟨_, Tryd.func81, rfl, c81⟩
    · exact ⟨_, Tryd.func82, rfl, c82⟩
    · exact ⟨_, Tryd.func83, rfl, c83⟩
    · exact ⟨_, Tryd.func84, rfl, c84⟩
    · exact ⟨_, Tryd.func85, rfl, c85⟩
    · exact ⟨_, Tryd.func96, rfl, c96⟩
    · exact ⟨_, Tryd.func102, rfl, c102⟩
end Go.Proofs.YthillgheddpmhaaDoor.AmGN
