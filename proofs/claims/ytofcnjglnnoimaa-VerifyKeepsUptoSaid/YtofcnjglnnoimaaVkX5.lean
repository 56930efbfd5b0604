/-
 The machine's program stands for the seat's: function by function.
-/
import Derived.Test.YtofcnjglnnoimaaVkX4
import Derived.Test.YtofcnjglnnoimaaVkX3
import Derived.Test.YtofcnjglnnoimaaRows
import Derived.KernelRfl
namespace Go.Proofs.Ytofcnjglnnoimaa.AmGY
open Go Go.AM
set_option maxRecDepth 100000
def AP : AProg := (.node none (.node none (.node none (.node none .nil (.node none (.node (some A39) .nil .nil) (.node (some A55) .nil .nil))) (.node none (.node (some A19) (.node none (.node (some A67) .nil .nil) .nil) (.node (some A51) (.node (some A83) .nil .nil) .nil)) (.node none .nil (.node (some A59) .nil .nil)))) (.node (some A5) (.node none (.node none (.node (some A33) .nil .nil) (.node none (.node (some A81) .nil .nil) .nil)) (.node none (.node (some A41) .nil .nil) (.node (some A57) .nil .nil))) (.node none (.node none .nil (.node (some A53) (.node (some A85) .nil .nil) .nil)) .nil))) (.node none (.node none (.node none (.node (some A16) (.node (some A32) .nil .nil) .nil) (.node none (.node (some A40) .nil .nil) (.node (some A56) .nil .nil))) (.node none (.node (some A20) .nil (.node (some A52) (.node (some A84) .nil .nil) .nil)) (.node none .nil (.node (some A60) .nil .nil)))) (.node none (.node none (.node (some A18) (.node (some A34) .nil .nil) (.node (some A50) (.node (some A82) .nil .nil) .nil)) (.node none .nil (.node (some A58) .nil .nil))) (.node none (.node none (.node (some A38) .nil .nil) (.node (some A54) .nil .nil)) .nil))))
def APL : List (Nat × AFun) := [(5,A5), (16,A16), (18,A18), (19,A19), (20,A20), (32,A32), (33,A33), (34,A34), (38,A38), (39,A39), (40,A40), (41,A41), (50,A50), (51,A51), (52,A52), (53,A53), (54,A54), (55,A55), (56,A56), (57,A57), (58,A58), (59,A59), (60,A60), (67,A67), (81,A81), (82,A82), (83,A83), (84,A84), (85,A85)]
theorem ap : AP = ofList APL := by kernel_rfl
theorem c5 : cFun Try.prog Try.f5 = some A5 := by kernel_rfl
theorem c16 : cFun Try.prog Try.f16 = some A16 := by kernel_rfl
theorem c18 : cFun Try.prog Try.f18 = some A18 := by kernel_rfl
theorem c19 : cFun Try.prog Try.f19 = some A19 := by kernel_rfl
theorem c20 : cFun Try.prog Try.f20 = some A20 := by kernel_rfl
theorem c32 : cFun Try.prog Try.f32 = some A32 := by kernel_rfl
theorem c33 : cFun Try.prog Try.f33 = some A33 := by kernel_rfl
theorem c34 : cFun Try.prog Try.f34 = some A34 := by kernel_rfl
theorem c38 : cFun Try.prog Try.f38 = some A38 := by kernel_rfl
theorem c39 : cFun Try.prog Try.f39 = some A39 := by kernel_rfl
theorem c40 : cFun Try.prog Try.f40 = some A40 := by kernel_rfl
theorem c41 : cFun Try.prog Try.f41 = some A41 := by kernel_rfl
theorem c50 : cFun Try.prog Try.f50 = some A50 := by kernel_rfl
theorem c51 : cFun Try.prog Try.f51 = some A51 := by kernel_rfl
theorem c52 : cFun Try.prog Try.f52 = some A52 := by kernel_rfl
theorem c53 : cFun Try.prog Try.f53 = some A53 := by kernel_rfl
theorem c54 : cFun Try.prog Try.f54 = some A54 := by kernel_rfl
theorem c55 : cFun Try.prog Try.f55 = some A55 := by kernel_rfl
theorem c56 : cFun Try.prog Try.f56 = some A56 := by kernel_rfl
theorem c57 : cFun Try.prog Try.f57 = some A57 := by kernel_rfl
theorem c58 : cFun Try.prog Try.f58 = some A58 := by kernel_rfl
theorem c59 : cFun Try.prog Try.f59 = some A59 := by kernel_rfl
theorem c60 : cFun Try.prog Try.f60 = some A60 := by kernel_rfl
theorem c67 : cFun Try.prog Try.f67 = some A67 := by kernel_rfl
theorem c81 : cFun Try.prog Try.f81 = some A81 := by kernel_rfl
theorem c82 : cFun Try.prog Try.f82 = some A82 := by kernel_rfl
theorem c83 : cFun Try.prog Try.f83 = some A83 := by kernel_rfl
theorem c84 : cFun Try.prog Try.f84 = some A84 := by kernel_rfl
theorem c85 : cFun Try.prog Try.f85 = some A85 := by kernel_rfl
theorem ok : ProgOk Try.prog AP where
 fol := rfl
 fn := by
  rw [ap]
  refine ofList_ok fun p hp => ?_
  simp only [APL,List.mem_cons,List.not_mem_nil,or_false] at hp
  rcases hp with rfl | rfl | rfl | rfl | rfl | rfl | rfl | rfl | rfl | rfl | rfl | rfl | rfl | rfl | rfl | rfl | rfl | rfl | rfl | rfl | rfl | rfl | rfl | rfl | rfl | rfl | rfl | rfl | rfl
  ·exact ⟨_,Try.func5,rfl,c5⟩
  ·exact ⟨_,Try.func16,rfl,c16⟩
  ·exact ⟨_,Try.func18,rfl,c18⟩
  ·exact ⟨_,Try.func19,rfl,c19⟩
  ·exact ⟨_,Try.func20,rfl,c20⟩
  ·exact ⟨_,Try.func32,rfl,c32⟩
  ·exact ⟨_,Try.func33,rfl,c33⟩
  ·exact ⟨_,Try.func34,rfl,c34⟩
  ·exact ⟨_,Try.func38,rfl,c38⟩
  ·exact ⟨_,Try.func39,rfl,c39⟩
  ·exact ⟨_,Try.func40,rfl,c40⟩
  ·exact ⟨_,Try.func41,rfl,c41⟩
  ·exact ⟨_,Try.func50,rfl,c50⟩
  ·exact ⟨_,Try.func51,rfl,c51⟩
  ·exact ⟨_,Try.func52,rfl,c52⟩
  ·exact ⟨_,Try.func53,rfl,c53⟩
  ·exact ⟨_,Try.func54,rfl,c54⟩
  ·exact ⟨_,Try.func55,rfl,c55⟩
  ·exact ⟨_,Try.func56,rfl,c56⟩
  ·exact ⟨_,Try.func57,rfl,c57⟩
  ·exact ⟨_,Try.func58,rfl,c58⟩
  ·exact ⟨_,Try.func59,rfl,c59⟩
  ·exact ⟨_,Try.func60,rfl,c60⟩
  ·exact ⟨_,Try.func67,rfl,c67⟩
  ·exact ⟨_,Try.func81,rfl,c81⟩
  ·exact ⟨_,Try.func82,rfl,c82⟩
  ·exact ⟨_,Try.func83,rfl,c83⟩
  ·exact ⟨_,Try.func84,rfl,c84⟩
  ·exact ⟨_,Try.func85,rfl,c85⟩
end Go.Proofs.Ytofcnjglnnoimaa.AmGY
