/-
 The machine's program stands for the seat's: function by function.
-/
import Derived.Test.YthillgheddpmhaaDoorMX4
import Derived.Test.YthillgheddpmhaaDoorMX3
import Derived.Test.YthillgheddpmhaaDoorRows
import Derived.KernelRfl
namespace Go.Proofs.YthillgheddpmhaaDoor.AmGJ
open Go Go.AM
set_option maxRecDepth 100000
def AP:AProg:=(.node none (.node none (.node none (.node none (.node (some A15) (.node (some A31) (.node (some A63) .nil .nil) (.node (some A95) .nil .nil)) (.node (some A47) (.node (some A79) .nil .nil) .nil)) (.node (some A23) (.node (some A39) (.node (some A71) .nil .nil) .nil) (.node (some A55) (.node (some A87) .nil .nil) .nil))) (.node none (.node (some A19) (.node none (.node (some A67) .nil .nil) (.node (some A99) .nil .nil)) (.node (some A51) (.node (some A83) .nil .nil) .nil)) (.node none (.node (some A43) (.node (some A75) .nil .nil) .nil) (.node (some A59) (.node (some A91) .nil .nil) .nil)))) (.node none (.node none (.node none (.node (some A33) (.node (some A65) .nil .nil) (.node (some A97) .nil .nil)) (.node (some A49) (.node (some A81) .nil .nil) .nil)) (.node (some A25) (.node (some A41) (.node (some A73) .nil .nil) .nil) (.node (some A57) (.node (some A89) .nil .nil) .nil))) (.node (some A13) (.node (some A21) (.node (some A37) (.node (some A69) .nil .nil) (.node (some A101) .nil .nil)) (.node (some A53) (.node (some A85) .nil .nil) .nil)) (.node none (.node (some A45) (.node (some A77) .nil .nil) .nil) (.node (some A61) (.node (some A93) .nil .nil) .nil))))) (.node none (.node none (.node none (.node none (.node (some A32) (.node (some A64) .nil .nil) (.node (some A96) .nil .nil)) (.node (some A48) (.node (some A80) .nil .nil) .nil)) (.node (some A24) (.node (some A40) (.node (some A72) .nil .nil) .nil) (.node (some A56) (.node (some A88) .nil .nil) .nil))) (.node none (.node (some A20) (.node none (.node (some A68) .nil .nil) (.node (some A100) .nil .nil)) (.node (some A52) (.node (some A84) .nil .nil) .nil)) (.node none (.node (some A44) (.node (some A76) .nil .nil) .nil) (.node (some A60) (.node (some A92) .nil .nil) .nil)))) (.node none (.node none (.node (some A18) (.node none (.node (some A66) .nil .nil) (.node (some A98) .nil .nil)) (.node (some A50) (.node (some A82) .nil .nil) .nil)) (.node none (.node (some A42) (.node (some A74) .nil .nil) .nil) (.node (some A58) (.node (some A90) .nil .nil) .nil))) (.node none (.node (some A22) (.node (some A38) (.node (some A70) .nil .nil) (.node (some A102) .nil .nil)) (.node (some A54) (.node (some A86) .nil .nil) .nil)) (.node (some A30) (.node (some A46) (.node (some A78) .nil .nil) .nil) (.node (some A62) (.node (some A94) .nil .nil) .nil))))))
def APL:List (Nat×AFun):=[(13,A13),(15,A15),(18,A18),(19,A19),(20,A20),(21,A21),(22,A22),(23,A23),(24,A24),(25,A25),(30,A30),(31,A31),(32,A32),(33,A33),(37,A37),(38,A38),(39,A39),(40,A40),(41,A41),(42,A42),(43,A43),(44,A44),(45,A45),(46,A46),(47,A47),(48,A48),(49,A49),(50,A50),(51,A51),(52,A52),(53,A53),(54,A54),(55,A55),(56,A56),(57,A57),(58,A58),(59,A59),(60,A60),(61,A61),(62,A62),(63,A63),(64,A64),(65,A65),(66,A66),(67,A67),(68,A68),(69,A69),(70,A70),(71,A71),(72,A72),(73,A73),(74,A74),(75,A75),(76,A76),(77,A77),(78,A78),(79,A79),(80,A80),(81,A81),(82,A82),(83,A83),(84,A84),(85,A85),(86,A86),(87,A87),(88,A88),(89,A89),(90,A90),(91,A91),(92,A92),(93,A93),(94,A94),(95,A95),(96,A96),(97,A97),(98,A98),(99,A99),(100,A100),(101,A101),(102,A102)]
theorem ap:AP=ofList APL:=by kernel_rfl
theorem c13:cFun Tryd.prog Tryd.f13=some A13:=by kernel_rfl
theorem c15:cFun Tryd.prog Tryd.f15=some A15:=by kernel_rfl
theorem c18:cFun Tryd.prog Tryd.f18=some A18:=by kernel_rfl
theorem c19:cFun Tryd.prog Tryd.f19=some A19:=by kernel_rfl
theorem c20:cFun Tryd.prog Tryd.f20=some A20:=by kernel_rfl
theorem c21:cFun Tryd.prog Tryd.f21=some A21:=by kernel_rfl
theorem c22:cFun Tryd.prog Tryd.f22=some A22:=by kernel_rfl
theorem c23:cFun Tryd.prog Tryd.f23=some A23:=by kernel_rfl
theorem c24:cFun Tryd.prog Tryd.f24=some A24:=by kernel_rfl
theorem c25:cFun Tryd.prog Tryd.f25=some A25:=by kernel_rfl
theorem c30:cFun Tryd.prog Tryd.f30=some A30:=by kernel_rfl
theorem c31:cFun Tryd.prog Tryd.f31=some A31:=by kernel_rfl
theorem c32:cFun Tryd.prog Tryd.f32=some A32:=by kernel_rfl
theorem c33:cFun Tryd.prog Tryd.f33=some A33:=by kernel_rfl
theorem c37:cFun Tryd.prog Tryd.f37=some A37:=by kernel_rfl
theorem c38:cFun Tryd.prog Tryd.f38=some A38:=by kernel_rfl
theorem c39:cFun Tryd.prog Tryd.f39=some A39:=by kernel_rfl
theorem c40:cFun Tryd.prog Tryd.f40=some A40:=by kernel_rfl
theorem c41:cFun Tryd.prog Tryd.f41=some A41:=by kernel_rfl
theorem c42:cFun Tryd.prog Tryd.f42=some A42:=by kernel_rfl
theorem c43:cFun Tryd.prog Tryd.f43=some A43:=by kernel_rfl
theorem c44:cFun Tryd.prog Tryd.f44=some A44:=by kernel_rfl
theorem c45:cFun Tryd.prog Tryd.f45=some A45:=by kernel_rfl
theorem c46:cFun Tryd.prog Tryd.f46=some A46:=by kernel_rfl
theorem c47:cFun Tryd.prog Tryd.f47=some A47:=by kernel_rfl
theorem c48:cFun Tryd.prog Tryd.f48=some A48:=by kernel_rfl
theorem c49:cFun Tryd.prog Tryd.f49=some A49:=by kernel_rfl
theorem c50:cFun Tryd.prog Tryd.f50=some A50:=by kernel_rfl
theorem c51:cFun Tryd.prog Tryd.f51=some A51:=by kernel_rfl
theorem c52:cFun Tryd.prog Tryd.f52=some A52:=by kernel_rfl
theorem c53:cFun Tryd.prog Tryd.f53=some A53:=by kernel_rfl
theorem c54:cFun Tryd.prog Tryd.f54=some A54:=by kernel_rfl
theorem c55:cFun Tryd.prog Tryd.f55=some A55:=by kernel_rfl
theorem c56:cFun Tryd.prog Tryd.f56=some A56:=by kernel_rfl
theorem c57:cFun Tryd.prog Tryd.f57=some A57:=by kernel_rfl
theorem c58:cFun Tryd.prog Tryd.f58=some A58:=by kernel_rfl
theorem c59:cFun Tryd.prog Tryd.f59=some A59:=by kernel_rfl
theorem c60:cFun Tryd.prog Tryd.f60=some A60:=by kernel_rfl
theorem c61:cFun Tryd.prog Tryd.f61=some A61:=by kernel_rfl
theorem c62:cFun Tryd.prog Tryd.f62=some A62:=by kernel_rfl
theorem c63:cFun Tryd.prog Tryd.f63=some A63:=by kernel_rfl
theorem c64:cFun Tryd.prog Tryd.f64=some A64:=by kernel_rfl
theorem c65:cFun Tryd.prog Tryd.f65=some A65:=by kernel_rfl
theorem c66:cFun Tryd.prog Tryd.f66=some A66:=by kernel_rfl
theorem c67:cFun Tryd.prog Tryd.f67=some A67:=by kernel_rfl
theorem c68:cFun Tryd.prog Tryd.f68=some A68:=by kernel_rfl
theorem c69:cFun Tryd.prog Tryd.f69=some A69:=by kernel_rfl
theorem c70:cFun Tryd.prog Tryd.f70=some A70:=by kernel_rfl
theorem c71:cFun Tryd.prog Tryd.f71=some A71:=by kernel_rfl
theorem c72:cFun Tryd.prog Tryd.f72=some A72:=by kernel_rfl
theorem c73:cFun Tryd.prog Tryd.f73=some A73:=by kernel_rfl
theorem c74:cFun Tryd.prog Tryd.f74=some A74:=by kernel_rfl
theorem c75:cFun Tryd.prog Tryd.f75=some A75:=by kernel_rfl
theorem c76:cFun Tryd.prog Tryd.f76=some A76:=by kernel_rfl
theorem c77:cFun Tryd.prog Tryd.f77=some A77:=by kernel_rfl
theorem c78:cFun Tryd.prog Tryd.f78=some A78:=by kernel_rfl
theorem c79:cFun Tryd.prog Tryd.f79=some A79:=by kernel_rfl
theorem c80:cFun Tryd.prog Tryd.f80=some A80:=by kernel_rfl
theorem c81:cFun Tryd.prog Tryd.f81=some A81:=by kernel_rfl
theorem c82:cFun Tryd.prog Tryd.f82=some A82:=by kernel_rfl
theorem c83:cFun Tryd.prog Tryd.f83=some A83:=by kernel_rfl
theorem c84:cFun Tryd.prog Tryd.f84=some A84:=by kernel_rfl
theorem c85:cFun Tryd.prog Tryd.f85=some A85:=by kernel_rfl
theorem c86:cFun Tryd.prog Tryd.f86=some A86:=by kernel_rfl
theorem c87:cFun Tryd.prog Tryd.f87=some A87:=by kernel_rfl
theorem c88:cFun Tryd.prog Tryd.f88=some A88:=by kernel_rfl
theorem c89:cFun Tryd.prog Tryd.f89=some A89:=by kernel_rfl
theorem c90:cFun Tryd.prog Tryd.f90=some A90:=by kernel_rfl
theorem c91:cFun Tryd.prog Tryd.f91=some A91:=by kernel_rfl
theorem c92:cFun Tryd.prog Tryd.f92=some A92:=by kernel_rfl
theorem c93:cFun Tryd.prog Tryd.f93=some A93:=by kernel_rfl
theorem c94:cFun Tryd.prog Tryd.f94=some A94:=by kernel_rfl
theorem c95:cFun Tryd.prog Tryd.f95=some A95:=by kernel_rfl
theorem c96:cFun Tryd.prog Tryd.f96=some A96:=by kernel_rfl
theorem c97:cFun Tryd.prog Tryd.f97=some A97:=by kernel_rfl
theorem c98:cFun Tryd.prog Tryd.f98=some A98:=by kernel_rfl
theorem c99:cFun Tryd.prog Tryd.f99=some A99:=by kernel_rfl
theorem c100:cFun Tryd.prog Tryd.f100=some A100:=by kernel_rfl
theorem c101:cFun Tryd.prog Tryd.f101=some A101:=by kernel_rfl
theorem c102:cFun Tryd.prog Tryd.f102=some A102:=by kernel_rfl
theorem ok:ProgOk Tryd.prog AP where
 fol:=rfl
 fn:=by
  rw [ap]
  refine ofList_ok fun p hp=>?_
  simp only [APL,List.mem_cons,List.not_mem_nil,or_false] at hp
  rcases hp with rfl | rfl | rfl | rfl | rfl | rfl | rfl | rfl | rfl | rfl | rfl | rfl | rfl | rfl | rfl | rfl | rfl | rfl | rfl | rfl | rfl | rfl | rfl | rfl | rfl | rfl | rfl | rfl | rfl | rfl | rfl | rfl | rfl | rfl | rfl | rfl | rfl | rfl | rfl | rfl | rfl | rfl | rfl | rfl | rfl | rfl | rfl | rfl | rfl | rfl | rfl | rfl | rfl | rfl | rfl | rfl | rfl | rfl | rfl | rfl | rfl | rfl | rfl | rfl | rfl | rfl | rfl | rfl | rfl | rfl | rfl | rfl | rfl | rfl | rfl | rfl | rfl | rfl | rfl | rfl
  ·exact ⟨_,Tryd.func13,rfl,c13⟩
  ·exact ⟨_,Tryd.func15,rfl,c15⟩
  ·exact ⟨_,Tryd.func18,rfl,c18⟩
  ·exact ⟨_,Tryd.func19,rfl,c19⟩
  ·exact ⟨_,Tryd.func20,rfl,c20⟩
  ·exact ⟨_,Tryd.func21,rfl,c21⟩
  ·exact ⟨_,Tryd.func22,rfl,c22⟩
  ·exact ⟨_,Tryd.func23,rfl,c23⟩
  ·exact ⟨_,Tryd.func24,rfl,c24⟩
  ·exact ⟨_,Tryd.func25,rfl,c25⟩
  ·exact ⟨_,Tryd.func30,rfl,c30⟩
  ·exact ⟨_,Tryd.func31,rfl,c31⟩
  ·exact ⟨_,Tryd.func32,rfl,c32⟩
  ·exact ⟨_,Tryd.func33,rfl,c33⟩
  ·exact ⟨_,Tryd.func37,rfl,c37⟩
  ·exact ⟨_,Tryd.func38,rfl,c38⟩
  ·exact ⟨_,Tryd.func39,rfl,c39⟩
  ·exact ⟨_,Tryd.func40,rfl,c40⟩
  ·exact ⟨_,Tryd.func41,rfl,c41⟩
  ·exact ⟨_,Tryd.func42,rfl,c42⟩
  ·exact ⟨_,Tryd.func43,rfl,c43⟩
  ·exact ⟨_,Tryd.func44,rfl,c44⟩
  ·exact ⟨_,Tryd.func45,rfl,c45⟩
  ·exact ⟨_,Tryd.func46,rfl,c46⟩
  ·exact ⟨_,Tryd.func47,rfl,c47⟩
  ·exact ⟨_,Tryd.func48,rfl,c48⟩
  ·exact ⟨_,Tryd.func49,rfl,c49⟩
  ·exact ⟨_,Tryd.func50,rfl,c50⟩
  ·exact ⟨_,Tryd.func51,rfl,c51⟩
  ·exact ⟨_,Tryd.func52,rfl,c52⟩
  ·exact ⟨_,Tryd.func53,rfl,c53⟩
  ·exact ⟨_,Tryd.func54,rfl,c54⟩
  ·exact ⟨_,Tryd.func55,rfl,c55⟩
  ·exact ⟨_,Tryd.func56,rfl,c56⟩
  ·exact ⟨_,Tryd.func57,rfl,c57⟩
  ·exact ⟨_,Tryd.func58,rfl,c58⟩
  ·exact ⟨_,Tryd.func59,rfl,c59⟩
  ·exact ⟨_,Tryd.func60,rfl,c60⟩
  ·exact ⟨_,Tryd.func61,rfl,c61⟩
  ·exact ⟨_,Tryd.func62,rfl,c62⟩
  ·exact ⟨_,Tryd.func63,rfl,c63⟩
  ·exact ⟨_,Tryd.func64,rfl,c64⟩
  ·exact ⟨_,Tryd.func65,rfl,c65⟩
  ·exact ⟨_,Tryd.func66,rfl,c66⟩
  ·exact ⟨_,Tryd.func67,rfl,c67⟩
  ·exact ⟨_,Tryd.func68,rfl,c68⟩
  ·exact ⟨_,Tryd.func69,rfl,c69⟩
  ·exact ⟨_,Tryd.func70,rfl,c70⟩
  ·exact ⟨_,Tryd.func71,rfl,c71⟩
  ·exact ⟨_,Tryd.func72,rfl,c72⟩
  ·exact ⟨_,Tryd.func73,rfl,c73⟩
  ·exact ⟨_,Tryd.func74,rfl,c74⟩
  ·exact ⟨_,Tryd.func75,rfl,c75⟩
  ·exact ⟨_,Tryd.func76,rfl,c76⟩
  ·exact ⟨_,Tryd.func77,rfl,c77⟩
  ·exact ⟨_,Tryd.func78,rfl,c78⟩
  ·exact ⟨_,Tryd.func79,rfl,c79⟩
  ·exact ⟨_,Tryd.func80,rfl,c80⟩
  ·exact ⟨_,Tryd.func81,rfl,c81⟩
  ·exact ⟨_,Tryd.func82,rfl,c82⟩
  ·exact ⟨_,Tryd.func83,rfl,c83⟩
  ·exact ⟨_,Tryd.func84,rfl,c84⟩
  ·exact ⟨_,Tryd.func85,rfl,c85⟩
  ·exact ⟨_,Tryd.func86,rfl,c86⟩
  ·exact ⟨_,Tryd.func87,rfl,c87⟩
  ·exact ⟨_,Tryd.func88,rfl,c88⟩
  ·exact ⟨_,Tryd.func89,rfl,c89⟩
  ·exact ⟨_,Tryd.func90,rfl,c90⟩
  ·exact ⟨_,Tryd.func91,rfl,c91⟩
  ·exact ⟨_,Tryd.func92,rfl,c92⟩
  ·exact ⟨_,Tryd.func93,rfl,c93⟩
  ·exact ⟨_,Tryd.func94,rfl,c94⟩
  ·exact ⟨_,Tryd.func95,rfl,c95⟩
  ·exact ⟨_,Tryd.func96,rfl,c96⟩
  ·exact ⟨_,Tryd.func97,rfl,c97⟩
  ·exact ⟨_,Tryd.func98,rfl,c98⟩
  ·exact ⟨_,Tryd.func99,rfl,c99⟩
  ·exact ⟨_,Tryd.func100,rfl,c100⟩
  ·exact ⟨_,Tryd.func101,rfl,c101⟩
  ·exact ⟨_,Tryd.func102,rfl,c102⟩
end Go.Proofs.YthillgheddpmhaaDoor.AmGJ