/- CmMemoR -/
import Derived.Test.YtbchdlelmkmagaaGreatDoorMg5
namespace Go.Proofs.YtbchdlelmkmagaaGreatDoor
namespace VM
open Go Go.RowKit
set_option maxRecDepth 20000
set_option linter.unusedVariables false
theorem fR0:LkF 11 0 [] 0:=by unfold LkF; kernel_rfl
theorem fR3:LkF 11 3 [] 0:=by unfold LkF; kernel_rfl
theorem fR16:LkF 11 16 [] 0:=by unfold LkF; kernel_rfl
theorem fR29:LkF 11 29 [] 0:=by unfold LkF; kernel_rfl
theorem fR42:LkF 11 42 [] 0:=by unfold LkF; kernel_rfl
theorem fR55:LkF 11 55 [] 0:=by unfold LkF; kernel_rfl
theorem fR68:LkF 11 68 [] 0:=by unfold LkF; kernel_rfl
theorem fR81:LkF 11 81 [] 0:=by unfold LkF; kernel_rfl
theorem fR94:LkF 11 94 [] 0:=by unfold LkF; kernel_rfl
theorem fR107:LkF 11 107 [] 0:=by unfold LkF; kernel_rfl
theorem fR5:LkF 11 5 [] 0:=by unfold LkF; kernel_rfl
theorem fR18:LkF 11 18 [] 0:=by unfold LkF; kernel_rfl
theorem fR31:LkF 11 31 [] 0:=by unfold LkF; kernel_rfl
theorem fR44:LkF 11 44 [] 0:=by unfold LkF; kernel_rfl
theorem fR57:LkF 11 57 [] 0:=by unfold LkF; kernel_rfl
theorem fR6:LkF 11 6 [67] 76:=by unfold LkF; kernel_rfl
theorem fR19:LkF 11 19 [67] 76:=by unfold LkF; kernel_rfl
theorem fR32:LkF 11 32 [67] 76:=by unfold LkF; kernel_rfl
theorem fR45:LkF 11 45 [67] 76:=by unfold LkF; kernel_rfl
theorem fR58:LkF 11 58 [67] 76:=by unfold LkF; kernel_rfl
theorem fR7:LkF 11 7 [125,122] 130:=by unfold LkF; kernel_rfl
theorem fR20:LkF 11 20 [125,122] 130:=by unfold LkF; kernel_rfl
theorem fR33:LkF 11 33 [125,122] 130:=by unfold LkF; kernel_rfl
theorem fR46:LkF 11 46 [125,122] 130:=by unfold LkF; kernel_rfl
theorem fR8:LkF 11 8 [183,180] 192:=by unfold LkF; kernel_rfl
theorem fR21:LkF 11 21 [183,180] 192:=by unfold LkF; kernel_rfl
theorem fR34:LkF 11 34 [183,180] 192:=by unfold LkF; kernel_rfl
theorem fR47:LkF 11 47 [183,180] 192:=by unfold LkF; kernel_rfl
theorem fR60:LkF 11 60 [183,180] 192:=by unfold LkF; kernel_rfl
theorem fR9:LkF 11 9 [119,116] 126:=by unfold LkF; kernel_rfl
theorem fR22:LkF 11 22 [119,116] 126:=by unfold LkF; kernel_rfl
theorem fR35:LkF 11 35 [119,116] 126:=by unfold LkF; kernel_rfl
theorem fR48:LkF 11 48 [119,116] 126:=by unfold LkF; kernel_rfl
theorem fR10:LkF 11 10 [339,302,336] 348:=by unfold LkF; kernel_rfl
theorem fR23:LkF 11 23 [339,302,336] 348:=by unfold LkF; kernel_rfl
theorem fR36:LkF 11 36 [339,302,336] 348:=by unfold LkF; kernel_rfl
theorem fR49:LkF 11 49 [339,302,336] 348:=by unfold LkF; kernel_rfl
theorem fR11:LkF 11 11 [139,136] 142:=by unfold LkF; kernel_rfl
theorem fR12:LkF 11 12 [98,95] 105:=by unfold LkF; kernel_rfl
theorem fR25:LkF 11 25 [98,95] 105:=by unfold LkF; kernel_rfl
theorem fR_ok [Sy] (hg:zi7 Tryz.prog Sy.tab zlg):∀ c ∈ zh3,ziy Tryz.prog 11 (zft (txt c)):=by
 intro c hc
 have e:zh3=[0,3,16,29,42,55,68,81,94,107,5,18,31,44,57,6,19,32,45,58,7,20,33,46,8,21,34,47,60,9,22,35,48,10,23,36,49,11,12,25]:=rfl
 rw [e] at hc
 simp only [List.mem_cons,List.not_mem_nil,or_false] at hc
 rcases hc with rfl | rfl | rfl | rfl | rfl | rfl | rfl | rfl | rfl | rfl | rfl | rfl | rfl | rfl | rfl | rfl | rfl | rfl | rfl | rfl | rfl | rfl | rfl | rfl | rfl | rfl | rfl | rfl | rfl | rfl | rfl | rfl | rfl | rfl | rfl | rfl | rfl | rfl | rfl | rfl
 ·exact zP hg fR0 (by decide)
 ·exact zP hg fR3 (by decide)
 ·exact zP hg fR16 (by decide)
 ·exact zP hg fR29 (by decide)
 ·exact zP hg fR42 (by decide)
 ·exact zP hg fR55 (by decide)
 ·exact zP hg fR68 (by decide)
 ·exact zP hg fR81 (by decide)
 ·exact zP hg fR94 (by decide)
 ·exact zP hg fR107 (by decide)
 ·exact zP hg fR5 (by decide)
 ·exact zP hg fR18 (by decide)
 ·exact zP hg fR31 (by decide)
 ·exact zP hg fR44 (by decide)
 ·exact zP hg fR57 (by decide)
 ·exact zP hg fR6 (by decide)
 ·exact zP hg fR19 (by decide)
 ·exact zP hg fR32 (by decide)
 ·exact zP hg fR45 (by decide)
 ·exact zP hg fR58 (by decide)
 ·exact zP hg fR7 (by decide)
 ·exact zP hg fR20 (by decide)
 ·exact zP hg fR33 (by decide)
 ·exact zP hg fR46 (by decide)
 ·exact zP hg fR8 (by decide)
 ·exact zP hg fR21 (by decide)
 ·exact zP hg fR34 (by decide)
 ·exact zP hg fR47 (by decide)
 ·exact zP hg fR60 (by decide)
 ·exact zP hg fR9 (by decide)
 ·exact zP hg fR22 (by decide)
 ·exact zP hg fR35 (by decide)
 ·exact zP hg fR48 (by decide)
 ·exact zP hg fR10 (by decide)
 ·exact zP hg fR23 (by decide)
 ·exact zP hg fR36 (by decide)
 ·exact zP hg fR49 (by decide)
 ·exact zP hg fR11 (by decide)
 ·exact zP hg fR12 (by decide)
 ·exact zP hg fR25 (by decide)
end VM
end Go.Proofs.YtbchdlelmkmagaaGreatDoor
