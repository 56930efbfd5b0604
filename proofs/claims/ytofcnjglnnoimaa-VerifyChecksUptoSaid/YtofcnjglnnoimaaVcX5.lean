/-
 The machine's program stands for the seat's: function by function.
-/
import Derived.Test.YtofcnjglnnoimaaVcX4
import Derived.Test.YtofcnjglnnoimaaVcX3
import Derived.Test.YtofcnjglnnoimaaRows
import Derived.KernelRfl
namespace Go.Proofs.Ytofcnjglnnoimaa.AmGW
open Go Go.AM
set_option maxRecDepth 100000
def AP : AProg := (.node none (.node none (.node (some A3) (.node none (.node none (.node none (.node (some A63) .nil .nil) .nil) .nil) (.node none .nil (.node (some A55) (.node (some A87) .nil .nil) .nil))) (.node none (.node (some A19) (.node (some A35) .nil .nil) (.node (some A51) (.node (some A83) .nil .nil) (.node (some A115) .nil .nil))) (.node none .nil (.node (some A59) (.node (some A91) .nil .nil) .nil)))) (.node none (.node none (.node (some A17) (.node (some A33) (.node (some A65) .nil .nil) .nil) (.node none (.node (some A81) .nil .nil) .nil)) (.node none .nil (.node (some A57) (.node (some A89) .nil .nil) .nil))) (.node none (.node none (.node (some A37) .nil .nil) (.node (some A53) (.node (some A85) .nil .nil) (.node (some A117) .nil .nil))) (.node none .nil (.node (some A61) (.node (some A93) .nil .nil) .nil))))) (.node none (.node none (.node none (.node (some A16) (.node (some A32) (.node (some A64) .nil .nil) .nil) .nil) (.node none .nil (.node (some A56) (.node (some A88) .nil .nil) .nil))) (.node none (.node none (.node (some A36) .nil .nil) (.node (some A52) (.node (some A84) .nil .nil) (.node (some A116) .nil .nil))) (.node none .nil (.node (some A60) (.node (some A92) .nil .nil) .nil)))) (.node none (.node none (.node (some A18) (.node (some A34) (.node (some A66) .nil .nil) .nil) (.node (some A50) (.node (some A82) .nil .nil) (.node (some A114) .nil .nil))) (.node none .nil (.node (some A58) (.node (some A90) .nil .nil) .nil))) (.node none (.node none .nil (.node (some A54) (.node (some A86) .nil .nil) .nil)) (.node none .nil (.node (some A62) .nil .nil))))))
def APL : List (Nat × AFun) := [(3,A3), (16,A16), (17,A17), (18,A18), (19,A19), (32,A32), (33,A33), (34,A34), (35,A35), (36,A36), (37,A37), (50,A50), (51,A51), (52,A52), (53,A53), (54,A54), (55,A55), (56,A56), (57,A57), (58,A58), (59,A59), (60,A60), (61,A61), (62,A62), (63,A63), (64,A64), (65,A65), (66,A66), (81,A81), (82,A82), (83,A83), (84,A84), (85,A85), (86,A86), (87,A87), (88,A88), (89,A89), (90,A90), (91,A91), (92,A92), (93,A93), (114,A114), (115,A115), (116,A116), (117,A117)]
theorem ap : AP = ofList APL := by kernel_rfl
theorem c3 : cFun Try.prog Try.f3 = some A3 := by kernel_rfl
theorem c16 : cFun Try.prog Try.f16 = some A16 := by kernel_rfl
theorem c17 : cFun Try.prog Try.f17 = some A17 := by kernel_rfl
theorem c18 : cFun Try.prog Try.f18 = some A18 := by kernel_rfl
theorem c19 : cFun Try.prog Try.f19 = some A19 := by kernel_rfl
theorem c32 : cFun Try.prog Try.f32 = some A32 := by kernel_rfl
theorem c33 : cFun Try.prog Try.f33 = some A33 := by kernel_rfl
theorem c34 : cFun Try.prog Try.f34 = some A34 := by kernel_rfl
theorem c35 : cFun Try.prog Try.f35 = some A35 := by kernel_rfl
theorem c36 : cFun Try.prog Try.f36 = some A36 := by kernel_rfl
theorem c37 : cFun Try.prog Try.f37 = some A37 := by kernel_rfl
theorem c50 : cFun Try.prog Try.f50 = some A50 := by kernel_rfl
theorem c51 : cFun Try.prog Try.f51 = some A51 := by kernel_rfl
theorem c52 : cFun Try.prog Try.f52 = some A52 := by kernel_rfl
theorem c53 : cFun Try.prog Try.f53 = some A53 := by kernel_rfl
theorem c54 : cFun Try.prog Try.f54 = some A54 := by kernel_rfl
theorem c55 : cFun Try.prog Try.f55 = some A55 := by kernel_rfl
theorem c56 : cFun Try.prog Try.f56 = some A56 := by kernel_rfl
theorem c57 : cFun Try.prog Try.f57 = some A57 := by kernel_rfl
theorem c58 : cFun Try.prog Try.f58 = some A58 := by kernel_rfl
theorem c59 : cFun Try.prog Try.f59 = some A59 := by kernel_rfl
theorem c60 : cFun Try.prog Try.f60 = some A60 := by kernel_rfl
theorem c61 : cFun Try.prog Try.f61 = some A61 := by kernel_rfl
theorem c62 : cFun Try.prog Try.f62 = some A62 := by kernel_rfl
theorem c63 : cFun Try.prog Try.f63 = some A63 := by kernel_rfl
theorem c64 : cFun Try.prog Try.f64 = some A64 := by kernel_rfl
theorem c65 : cFun Try.prog Try.f65 = some A65 := by kernel_rfl
theorem c66 : cFun Try.prog Try.f66 = some A66 := by kernel_rfl
theorem c81 : cFun Try.prog Try.f81 = some A81 := by kernel_rfl
theorem c82 : cFun Try.prog Try.f82 = some A82 := by kernel_rfl
theorem c83 : cFun Try.prog Try.f83 = some A83 := by kernel_rfl
theorem c84 : cFun Try.prog Try.f84 = some A84 := by kernel_rfl
theorem c85 : cFun Try.prog Try.f85 = some A85 := by kernel_rfl
theorem c86 : cFun Try.prog Try.f86 = some A86 := by kernel_rfl
theorem c87 : cFun Try.prog Try.f87 = some A87 := by kernel_rfl
theorem c88 : cFun Try.prog Try.f88 = some A88 := by kernel_rfl
theorem c89 : cFun Try.prog Try.f89 = some A89 := by kernel_rfl
theorem c90 : cFun Try.prog Try.f90 = some A90 := by kernel_rfl
theorem c91 : cFun Try.prog Try.f91 = some A91 := by kernel_rfl
theorem c92 : cFun Try.prog Try.f92 = some A92 := by kernel_rfl
theorem c93 : cFun Try.prog Try.f93 = some A93 := by kernel_rfl
theorem c114 : cFun Try.prog Try.f114 = some A114 := by kernel_rfl
theorem c115 : cFun Try.prog Try.f115 = some A115 := by kernel_rfl
theorem c116 : cFun Try.prog Try.f116 = some A116 := by kernel_rfl
theorem c117 : cFun Try.prog Try.f117 = some A117 := by kernel_rfl
theorem ok : ProgOk Try.prog AP where
 fol := rfl
 fn := by
  rw [ap]
  refine ofList_ok fun p hp => ?_
  simp only [APL,List.mem_cons,List.not_mem_nil,or_false] at hp
  rcases hp with rfl | rfl | rfl | rfl | rfl | rfl | rfl | rfl | rfl | rfl | rfl | rfl | rfl | rfl | rfl | rfl | rfl | rfl | rfl | rfl | rfl | rfl | rfl | rfl | rfl | rfl | rfl | rfl | rfl | rfl | rfl | rfl | rfl | rfl | rfl | rfl | rfl | rfl | rfl | rfl | rfl | rfl | rfl | rfl | rfl
  ·exact ⟨_,Try.func3,rfl,c3⟩
  ·exact ⟨_,Try.func16,rfl,c16⟩
  ·exact ⟨_,Try.func17,rfl,c17⟩
  ·exact ⟨_,Try.func18,rfl,c18⟩
  ·exact ⟨_,Try.func19,rfl,c19⟩
  ·exact ⟨_,Try.func32,rfl,c32⟩
  ·exact ⟨_,Try.func33,rfl,c33⟩
  ·exact ⟨_,Try.func34,rfl,c34⟩
  ·exact ⟨_,Try.func35,rfl,c35⟩
  ·exact ⟨_,Try.func36,rfl,c36⟩
  ·exact ⟨_,Try.func37,rfl,c37⟩
  ·exact ⟨_,Try.func50,rfl,c50⟩
  ·exact ⟨_,Try.func51,rfl,c51⟩
  ·exact ⟨_,Try.func52,rfl,c52⟩
  ·exact ⟨_,Try.func53,rfl,c53⟩
  ·exact ⟨_,Try.func54,rfl,c54⟩
  ·exact ⟨_,Try.func55,rfl,c55⟩
  ·exact ⟨_,Try.func56,rfl,c56⟩
  ·exact ⟨_,Try.func57,rfl,c57⟩
  ·exact ⟨_,Try.func58,rfl,c58⟩
  ·exact ⟨_,Try.func59,rfl,c59⟩
  ·exact ⟨_,Try.func60,rfl,c60⟩
  ·exact ⟨_,Try.func61,rfl,c61⟩
  ·exact ⟨_,Try.func62,rfl,c62⟩
  ·exact ⟨_,Try.func63,rfl,c63⟩
  ·exact ⟨_,Try.func64,rfl,c64⟩
  ·exact ⟨_,Try.func65,rfl,c65⟩
  ·exact ⟨_,Try.func66,rfl,c66⟩
  ·exact ⟨_,Try.func81,rfl,c81⟩
  ·exact ⟨_,Try.func82,rfl,c82⟩
  ·exact ⟨_,Try.func83,rfl,c83⟩
  ·exact ⟨_,Try.func84,rfl,c84⟩
  ·exact ⟨_,Try.func85,rfl,c85⟩
  ·exact ⟨_,Try.func86,rfl,c86⟩
  ·exact ⟨_,Try.func87,rfl,c87⟩
  ·exact ⟨_,Try.func88,rfl,c88⟩
  ·exact ⟨_,Try.func89,rfl,c89⟩
  ·exact ⟨_,Try.func90,rfl,c90⟩
  ·exact ⟨_,Try.func91,rfl,c91⟩
  ·exact ⟨_,Try.func92,rfl,c92⟩
  ·exact ⟨_,Try.func93,rfl,c93⟩
  ·exact ⟨_,Try.func114,rfl,c114⟩
  ·exact ⟨_,Try.func115,rfl,c115⟩
  ·exact ⟨_,Try.func116,rfl,c116⟩
  ·exact ⟨_,Try.func117,rfl,c117⟩
end Go.Proofs.Ytofcnjglnnoimaa.AmGW
