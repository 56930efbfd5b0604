/-
 The machine's program stands for the seat's: function by function.
-/
import Derived.Test.YtnbnpjhlflcjeaaFX4
import Derived.Test.YtnbnpjhlflcjeaaFX5
import Derived.Test.YtnbnpjhlflcjeaaFX3
import Derived.Test.YtnbnpjhlflcjeaaRows
import Derived.KernelRfl
namespace Go.Proofs.Ytnbnpjhlflcjeaa.AmGF
open Go Go.AM
set_option maxRecDepth 100000
def AP:AProg:=(.node none (.node none (.node none (.node none (.node (some A15) (.node (some A31) (.node (some A63) .nil .nil) (.node (some A95) .nil .nil)) (.node (some A47) (.node (some A79) .nil .nil) (.node (some A111) .nil .nil))) (.node (some A23) (.node (some A39) .nil (.node (some A103) .nil .nil)) (.node (some A55) (.node (some A87) .nil .nil) .nil))) (.node (some A11) (.node (some A19) (.node (some A35) (.node (some A67) .nil .nil) (.node (some A99) .nil .nil)) (.node none (.node (some A83) .nil .nil) .nil)) (.node (some A27) (.node none (.node (some A75) .nil .nil) (.node (some A107) .nil .nil)) (.node (some A59) (.node (some A91) .nil .nil) .nil)))) (.node none (.node none (.node (some A17) (.node none (.node (some A65) .nil .nil) (.node (some A97) .nil .nil)) (.node none (.node (some A81) .nil .nil) .nil)) (.node none (.node (some A41) (.node (some A73) .nil .nil) (.node (some A105) .nil .nil)) (.node (some A57) (.node (some A89) .nil .nil) .nil))) (.node none (.node none (.node (some A37) .nil (.node (some A101) .nil .nil)) (.node none (.node (some A85) .nil .nil) .nil)) (.node (some A29) (.node none (.node (some A77) .nil .nil) (.node (some A109) .nil .nil)) (.node (some A61) (.node (some A93) .nil .nil) .nil))))) (.node none (.node none (.node none (.node (some A16) (.node none (.node (some A64) .nil .nil) (.node (some A96) .nil .nil)) (.node (some A48) (.node (some A80) .nil .nil) (.node (some A112) .nil .nil))) (.node (some A24) (.node (some A40) .nil (.node (some A104) .nil .nil)) (.node (some A56) (.node (some A88) .nil .nil) .nil))) (.node none (.node none (.node (some A36) (.node (some A68) .nil .nil) (.node (some A100) .nil .nil)) (.node none (.node (some A84) .nil .nil) .nil)) (.node (some A28) (.node none (.node (some A76) .nil .nil) (.node (some A108) .nil .nil)) (.node (some A60) (.node (some A92) .nil .nil) .nil)))) (.node none (.node none (.node (some A18) (.node (some A34) (.node (some A66) .nil .nil) (.node (some A98) .nil .nil)) (.node (some A50) (.node (some A82) .nil .nil) .nil)) (.node (some A26) (.node none (.node (some A74) .nil .nil) (.node (some A106) .nil .nil)) (.node (some A58) (.node (some A90) .nil .nil) .nil))) (.node (some A14) (.node (some A22) (.node (some A38) .nil (.node (some A102) .nil .nil)) (.node (some A54) (.node (some A86) .nil .nil) .nil)) (.node (some A30) (.node (some A46) (.node (some A78) .nil .nil) (.node (some A110) .nil .nil)) (.node (some A62) (.node (some A94) .nil .nil) .nil))))))
def APL:List (Nat×AFun):=[(11,A11),(14,A14),(15,A15),(16,A16),(17,A17),(18,A18),(19,A19),(22,A22),(23,A23),(24,A24),(26,A26),(27,A27),(28,A28),(29,A29),(30,A30),(31,A31),(34,A34),(35,A35),(36,A36),(37,A37),(38,A38),(39,A39),(40,A40),(41,A41),(46,A46),(47,A47),(48,A48),(50,A50),(54,A54),(55,A55),(56,A56),(57,A57),(58,A58),(59,A59),(60,A60),(61,A61),(62,A62),(63,A63),(64,A64),(65,A65),(66,A66),(67,A67),(68,A68),(73,A73),(74,A74),(75,A75),(76,A76),(77,A77),(78,A78),(79,A79),(80,A80),(81,A81),(82,A82),(83,A83),(84,A84),(85,A85),(86,A86),(87,A87),(88,A88),(89,A89),(90,A90),(91,A91),(92,A92),(93,A93),(94,A94),(95,A95),(96,A96),(97,A97),(98,A98),(99,A99),(100,A100),(101,A101),(102,A102),(103,A103),(104,A104),(105,A105),(106,A106),(107,A107),(108,A108),(109,A109),(110,A110),(111,A111),(112,A112)]
theorem ap:AP=ofList APL:=by kernel_rfl
theorem c11:cFun Try.prog Try.f11=some A11:=by kernel_rfl
theorem c14:cFun Try.prog Try.f14=some A14:=by kernel_rfl
theorem c15:cFun Try.prog Try.f15=some A15:=by kernel_rfl
theorem c16:cFun Try.prog Try.f16=some A16:=by kernel_rfl
theorem c17:cFun Try.prog Try.f17=some A17:=by kernel_rfl
theorem c18:cFun Try.prog Try.f18=some A18:=by kernel_rfl
theorem c19:cFun Try.prog Try.f19=some A19:=by kernel_rfl
theorem c22:cFun Try.prog Try.f22=some A22:=by kernel_rfl
theorem c23:cFun Try.prog Try.f23=some A23:=by kernel_rfl
theorem c24:cFun Try.prog Try.f24=some A24:=by kernel_rfl
theorem c26:cFun Try.prog Try.f26=some A26:=by kernel_rfl
theorem c27:cFun Try.prog Try.f27=some A27:=by kernel_rfl
theorem c28:cFun Try.prog Try.f28=some A28:=by kernel_rfl
theorem c29:cFun Try.prog Try.f29=some A29:=by kernel_rfl
theorem c30:cFun Try.prog Try.f30=some A30:=by kernel_rfl
theorem c31:cFun Try.prog Try.f31=some A31:=by kernel_rfl
theorem c34:cFun Try.prog Try.f34=some A34:=by kernel_rfl
theorem c35:cFun Try.prog Try.f35=some A35:=by kernel_rfl
theorem c36:cFun Try.prog Try.f36=some A36:=by kernel_rfl
theorem c37:cFun Try.prog Try.f37=some A37:=by kernel_rfl
theorem c38:cFun Try.prog Try.f38=some A38:=by kernel_rfl
theorem c39:cFun Try.prog Try.f39=some A39:=by kernel_rfl
theorem c40:cFun Try.prog Try.f40=some A40:=by kernel_rfl
theorem c41:cFun Try.prog Try.f41=some A41:=by kernel_rfl
theorem c46:cFun Try.prog Try.f46=some A46:=by kernel_rfl
theorem c47:cFun Try.prog Try.f47=some A47:=by kernel_rfl
theorem c48:cFun Try.prog Try.f48=some A48:=by kernel_rfl
theorem c50:cFun Try.prog Try.f50=some A50:=by kernel_rfl
theorem c54:cFun Try.prog Try.f54=some A54:=by kernel_rfl
theorem c55:cFun Try.prog Try.f55=some A55:=by kernel_rfl
theorem c56:cFun Try.prog Try.f56=some A56:=by kernel_rfl
theorem c57:cFun Try.prog Try.f57=some A57:=by kernel_rfl
theorem c58:cFun Try.prog Try.f58=some A58:=by kernel_rfl
theorem c59:cFun Try.prog Try.f59=some A59:=by kernel_rfl
theorem c60:cFun Try.prog Try.f60=some A60:=by kernel_rfl
theorem c61:cFun Try.prog Try.f61=some A61:=by kernel_rfl
theorem c62:cFun Try.prog Try.f62=some A62:=by kernel_rfl
theorem c63:cFun Try.prog Try.f63=some A63:=by kernel_rfl
theorem c64:cFun Try.prog Try.f64=some A64:=by kernel_rfl
theorem c65:cFun Try.prog Try.f65=some A65:=by kernel_rfl
theorem c66:cFun Try.prog Try.f66=some A66:=by kernel_rfl
theorem c67:cFun Try.prog Try.f67=some A67:=by kernel_rfl
theorem c68:cFun Try.prog Try.f68=some A68:=by kernel_rfl
theorem c73:cFun Try.prog Try.f73=some A73:=by kernel_rfl
theorem c74:cFun Try.prog Try.f74=some A74:=by kernel_rfl
theorem c75:cFun Try.prog Try.f75=some A75:=by kernel_rfl
theorem c76:cFun Try.prog Try.f76=some A76:=by kernel_rfl
theorem c77:cFun Try.prog Try.f77=some A77:=by kernel_rfl
theorem c78:cFun Try.prog Try.f78=some A78:=by kernel_rfl
theorem c79:cFun Try.prog Try.f79=some A79:=by kernel_rfl
theorem c80:cFun Try.prog Try.f80=some A80:=by kernel_rfl
theorem c81:cFun Try.prog Try.f81=some A81:=by kernel_rfl
theorem c82:cFun Try.prog Try.f82=some A82:=by kernel_rfl
theorem c83:cFun Try.prog Try.f83=some A83:=by kernel_rfl
theorem c84:cFun Try.prog Try.f84=some A84:=by kernel_rfl
theorem c85:cFun Try.prog Try.f85=some A85:=by kernel_rfl
theorem c86:cFun Try.prog Try.f86=some A86:=by kernel_rfl
theorem c87:cFun Try.prog Try.f87=some A87:=by kernel_rfl
theorem c88:cFun Try.prog Try.f88=some A88:=by kernel_rfl
theorem c89:cFun Try.prog Try.f89=some A89:=by kernel_rfl
theorem c90:cFun Try.prog Try.f90=some A90:=by kernel_rfl
theorem c91:cFun Try.prog Try.f91=some A91:=by kernel_rfl
theorem c92:cFun Try.prog Try.f92=some A92:=by kernel_rfl
theorem c93:cFun Try.prog Try.f93=some A93:=by kernel_rfl
theorem c94:cFun Try.prog Try.f94=some A94:=by kernel_rfl
theorem c95:cFun Try.prog Try.f95=some A95:=by kernel_rfl
theorem c96:cFun Try.prog Try.f96=some A96:=by kernel_rfl
theorem c97:cFun Try.prog Try.f97=some A97:=by kernel_rfl
theorem c98:cFun Try.prog Try.f98=some A98:=by kernel_rfl
theorem c99:cFun Try.prog Try.f99=some A99:=by kernel_rfl
theorem c100:cFun Try.prog Try.f100=some A100:=by kernel_rfl
theorem c101:cFun Try.prog Try.f101=some A101:=by kernel_rfl
theorem c102:cFun Try.prog Try.f102=some A102:=by kernel_rfl
theorem c103:cFun Try.prog Try.f103=some A103:=by kernel_rfl
theorem c104:cFun Try.prog Try.f104=some A104:=by kernel_rfl
theorem c105:cFun Try.prog Try.f105=some A105:=by kernel_rfl
theorem c106:cFun Try.prog Try.f106=some A106:=by kernel_rfl
theorem c107:cFun Try.prog Try.f107=some A107:=by kernel_rfl
theorem c108:cFun Try.prog Try.f108=some A108:=by kernel_rfl
theorem c109:cFun Try.prog Try.f109=some A109:=by kernel_rfl
theorem c110:cFun Try.prog Try.f110=some A110:=by kernel_rfl
theorem c111:cFun Try.prog Try.f111=some A111:=by kernel_rfl
theorem c112:cFun Try.prog Try.f112=some A112:=by kernel_rfl
theorem ok:ProgOk Try.prog AP where
 fol:=rfl
 fn:=by
  rw [ap]
  refine ofList_ok fun p hp=>?_
  simp only [APL,List.mem_cons,List.not_mem_nil,or_false] at hp
  rcases hp with rfl | rfl | rfl | rfl | rfl | rfl | rfl | rfl | rfl | rfl | rfl | rfl | rfl | rfl | rfl | rfl | rfl | rfl | rfl | rfl | rfl | rfl | rfl | rfl | rfl | rfl | rfl | rfl | rfl | rfl | rfl | rfl | rfl | rfl | rfl | rfl | rfl | rfl | rfl | rfl | rfl | rfl | rfl | rfl | rfl | rfl | rfl | rfl | rfl | rfl | rfl | rfl | rfl | rfl | rfl | rfl | rfl | rfl | rfl | rfl | rfl | rfl | rfl | rfl | rfl | rfl | rfl | rfl | rfl | rfl | rfl | rfl | rfl | rfl | rfl | rfl | rfl | rfl | rfl | rfl | rfl | rfl | rfl
  ·exact ⟨_,Try.func11,rfl,c11⟩
  ·exact ⟨_,Try.func14,rfl,c14⟩
  ·exact ⟨_,Try.func15,rfl,c15⟩
  ·exact ⟨_,Try.func16,rfl,c16⟩
  ·exact ⟨_,Try.func17,rfl,c17⟩
  ·exact ⟨_,Try.func18,rfl,c18⟩
  ·exact ⟨_,Try.func19,rfl,c19⟩
  ·exact ⟨_,Try.func22,rfl,c22⟩
  ·exact ⟨_,Try.func23,rfl,c23⟩
  ·exact ⟨_,Try.func24,rfl,c24⟩
  ·exact ⟨_,Try.func26,rfl,c26⟩
  ·exact ⟨_,Try.func27,rfl,c27⟩
  ·exact ⟨_,Try.func28,rfl,c28⟩
  ·exact ⟨_,Try.func29,rfl,c29⟩
  ·exact ⟨_,Try.func30,rfl,c30⟩
  ·exact ⟨_,Try.func31,rfl,c31⟩
  ·exact ⟨_,Try.func34,rfl,c34⟩
  ·exact ⟨_,Try.func35,rfl,c35⟩
  ·exact ⟨_,Try.func36,rfl,c36⟩
  ·exact ⟨_,Try.func37,rfl,c37⟩
  ·exact ⟨_,Try.func38,rfl,c38⟩
  ·exact ⟨_,Try.func39,rfl,c39⟩
  ·exact ⟨_,Try.func40,rfl,c40⟩
  ·exact ⟨_,Try.func41,rfl,c41⟩
  ·exact ⟨_,Try.func46,rfl,c46⟩
  ·exact ⟨_,Try.func47,rfl,c47⟩
  ·exact ⟨_,Try.func48,rfl,c48⟩
  ·exact ⟨_,Try.func50,rfl,c50⟩
  ·exact ⟨_,Try.func54,rfl,c54⟩
  ·exact ⟨_,Try.func55,rfl,c55⟩
  ·exact ⟨_,Try.func56,rfl,c56⟩
  ·exact ⟨_,Try.func57,rfl,c57⟩
  ·exact ⟨_,Try.func58,rfl,c58⟩
  ·exact ⟨_,Try.func59,rfl,c59⟩
  ·exact ⟨_,Try.func60,rfl,c60⟩
  ·exact ⟨_,Try.func61,rfl,c61⟩
  ·exact ⟨_,Try.func62,rfl,c62⟩
  ·exact ⟨_,Try.func63,rfl,c63⟩
  ·exact ⟨_,Try.func64,rfl,c64⟩
  ·exact ⟨_,Try.func65,rfl,c65⟩
  ·exact ⟨_,Try.func66,rfl,c66⟩
  ·exact ⟨_,Try.func67,rfl,c67⟩
  ·exact ⟨_,Try.func68,rfl,c68⟩
  ·exact ⟨_,Try.func73,rfl,c73⟩
  ·exact ⟨_,Try.func74,rfl,c74⟩
  ·exact ⟨_,Try.func75,rfl,c75⟩
  ·exact ⟨_,Try.func76,rfl,c76⟩
  ·exact ⟨_,Try.func77,rfl,c77⟩
  ·exact ⟨_,Try.func78,rfl,c78⟩
  ·exact ⟨_,Try.func79,rfl,c79⟩
  ·exact ⟨_,Try.func80,rfl,c80⟩
  ·exact ⟨_,Try.func81,rfl,c81⟩
  ·exact ⟨_,Try.func82,rfl,c82⟩
  ·exact ⟨_,Try.func83,rfl,c83⟩
  ·exact ⟨_,Try.func84,rfl,c84⟩
  ·exact ⟨_,Try.func85,rfl,c85⟩
  ·exact ⟨_,Try.func86,rfl,c86⟩
  ·exact ⟨_,Try.func87,rfl,c87⟩
  ·exact ⟨_,Try.func88,rfl,c88⟩
  ·exact ⟨_,Try.func89,rfl,c89⟩
  ·exact ⟨_,Try.func90,rfl,c90⟩
  ·exact ⟨_,Try.func91,rfl,c91⟩
  ·exact ⟨_,Try.func92,rfl,c92⟩
  ·exact ⟨_,Try.func93,rfl,c93⟩
  ·exact ⟨_,Try.func94,rfl,c94⟩
  ·exact ⟨_,Try.func95,rfl,c95⟩
  ·exact ⟨_,Try.func96,rfl,c96⟩
  ·exact ⟨_,Try.func97,rfl,c97⟩
  ·exact ⟨_,Try.func98,rfl,c98⟩
  ·exact ⟨_,Try.func99,rfl,c99⟩
  ·exact ⟨_,Try.func100,rfl,c100⟩
  ·exact ⟨_,Try.func101,rfl,c101⟩
  ·exact ⟨_,Try.func102,rfl,c102⟩
  ·exact ⟨_,Try.func103,rfl,c103⟩
  ·exact ⟨_,Try.func104,rfl,c104⟩
  ·exact ⟨_,Try.func105,rfl,c105⟩
  ·exact ⟨_,Try.func106,rfl,c106⟩
  ·exact ⟨_,Try.func107,rfl,c107⟩
  ·exact ⟨_,Try.func108,rfl,c108⟩
  ·exact ⟨_,Try.func109,rfl,c109⟩
  ·exact ⟨_,Try.func110,rfl,c110⟩
  ·exact ⟨_,Try.func111,rfl,c111⟩
  ·exact ⟨_,Try.func112,rfl,c112⟩
end Go.Proofs.Ytnbnpjhlflcjeaa.AmGF