/- CmMemoF -/
import Derived.Test.YtbchdlelmkmagaaGreatDoorMg5
namespace Go.Proofs.YtbchdlelmkmagaaGreatDoor
namespace VM
open Go Go.RowKit
set_option maxRecDepth 20000
set_option linter.unusedVariables false
theorem fF0:LkF 20 0 [] 0:=by unfold LkF; kernel_rfl
theorem fF3:LkF 20 3 [] 0:=by unfold LkF; kernel_rfl
theorem fF16:LkF 20 16 [] 0:=by unfold LkF; kernel_rfl
theorem fF29:LkF 20 29 [] 0:=by unfold LkF; kernel_rfl
theorem fF42:LkF 20 42 [] 0:=by unfold LkF; kernel_rfl
theorem fF55:LkF 20 55 [] 0:=by unfold LkF; kernel_rfl
theorem fF68:LkF 20 68 [] 0:=by unfold LkF; kernel_rfl
theorem fF81:LkF 20 81 [] 0:=by unfold LkF; kernel_rfl
theorem fF94:LkF 20 94 [] 0:=by unfold LkF; kernel_rfl
theorem fF107:LkF 20 107 [] 0:=by unfold LkF; kernel_rfl
theorem fF5:LkF 20 5 [] 0:=by unfold LkF; kernel_rfl
theorem fF18:LkF 20 18 [] 0:=by unfold LkF; kernel_rfl
theorem fF31:LkF 20 31 [] 0:=by unfold LkF; kernel_rfl
theorem fF44:LkF 20 44 [] 0:=by unfold LkF; kernel_rfl
theorem fF57:LkF 20 57 [] 0:=by unfold LkF; kernel_rfl
theorem fF6:LkF 20 6 [98] 108:=by unfold LkF; kernel_rfl
theorem fF19:LkF 20 19 [98] 108:=by unfold LkF; kernel_rfl
theorem fF32:LkF 20 32 [98] 108:=by unfold LkF; kernel_rfl
theorem fF45:LkF 20 45 [98] 108:=by unfold LkF; kernel_rfl
theorem fF58:LkF 20 58 [98] 108:=by unfold LkF; kernel_rfl
theorem fF7:LkF 20 7 [172,169] 180:=by unfold LkF; kernel_rfl
theorem fF20:LkF 20 20 [172,169] 180:=by unfold LkF; kernel_rfl
theorem fF33:LkF 20 33 [172,169] 180:=by unfold LkF; kernel_rfl
theorem fF46:LkF 20 46 [172,169] 180:=by unfold LkF; kernel_rfl
theorem fF8:LkF 20 8 [273,266] 283:=by unfold LkF; kernel_rfl
theorem fF21:LkF 20 21 [273,266] 283:=by unfold LkF; kernel_rfl
theorem fF34:LkF 20 34 [273,266] 283:=by unfold LkF; kernel_rfl
theorem fF47:LkF 20 47 [273,266] 283:=by unfold LkF; kernel_rfl
theorem fF60:LkF 20 60 [273,266] 283:=by unfold LkF; kernel_rfl
theorem fF9:LkF 20 9 [160,157] 170:=by unfold LkF; kernel_rfl
theorem fF22:LkF 20 22 [160,157] 170:=by unfold LkF; kernel_rfl
theorem fF35:LkF 20 35 [160,157] 170:=by unfold LkF; kernel_rfl
theorem fF48:LkF 20 48 [160,157] 170:=by unfold LkF; kernel_rfl
theorem fF10:LkF 20 10 [525,446,518] 535:=by unfold LkF; kernel_rfl
theorem fF23:LkF 20 23 [525,446,518] 535:=by unfold LkF; kernel_rfl
theorem fF36:LkF 20 36 [525,446,518] 535:=by unfold LkF; kernel_rfl
theorem fF49:LkF 20 49 [525,446,518] 535:=by unfold LkF; kernel_rfl
theorem fF11:LkF 20 11 [186,183] 192:=by unfold LkF; kernel_rfl
theorem fF12:LkF 20 12 [139,136] 149:=by unfold LkF; kernel_rfl
theorem fF25:LkF 20 25 [139,136] 149:=by unfold LkF; kernel_rfl
theorem fF_ok [Sy] (hg:zi7 Tryz.prog Sy.tab zlg):∀ c ∈ zh3,ziy Tryz.prog 20 (zft (txt c)):=by
 intro c hc
 have e:zh3=[0,3,16,29,42,55,68,81,94,107,5,18,31,44,57,6,19,32,45,58,7,20,33,46,8,21,34,47,60,9,22,35,48,10,23,36,49,11,12,25]:=rfl
 rw [e] at hc
 simp only [List.mem_cons,List.not_mem_nil,or_false] at hc
 rcases hc with rfl | rfl | rfl | rfl | rfl | rfl | rfl | rfl | rfl | rfl | rfl | rfl | rfl | rfl | rfl | rfl | rfl | rfl | rfl | rfl | rfl | rfl | rfl | rfl | rfl | rfl | rfl | rfl | rfl | rfl | rfl | rfl | rfl | rfl | rfl | rfl | rfl | rfl | rfl | rfl
 ·exact zP hg fF0 (by decide)
 ·exact zP hg fF3 (by decide)
 ·exact zP hg fF16 (by decide)
 ·exact zP hg fF29 (by decide)
 ·exact zP hg fF42 (by decide)
 ·exact zP hg fF55 (by decide)
 ·exact zP hg fF68 (by decide)
 ·exact zP hg fF81 (by decide)
 ·exact zP hg fF94 (by decide)
 ·exact zP hg fF107 (by decide)
 ·exact zP hg fF5 (by decide)
 ·exact zP hg fF18 (by decide)
 ·exact zP hg fF31 (by decide)
 ·exact zP hg fF44 (by decide)
 ·exact zP hg fF57 (by decide)
 ·exact zP hg fF6 (by decide)
 ·exact zP hg fF19 (by decide)
 ·exact zP hg fF32 (by decide)
 ·exact zP hg fF45 (by decide)
 ·exact zP hg fF58 (by decide)
 ·exact zP hg fF7 (by decide)
 ·exact zP hg fF20 (by decide)
 ·exact zP hg fF33 (by decide)
 ·exact zP hg fF46 (by decide)
 ·exact zP hg fF8 (by decide)
 ·exact zP hg fF21 (by decide)
 ·exact zP hg fF34 (by decide)
 ·exact zP hg fF47 (by decide)
 ·exact zP hg fF60 (by decide)
 ·exact zP hg fF9 (by decide)
 ·exact zP hg fF22 (by decide)
 ·exact zP hg fF35 (by decide)
 ·exact zP hg fF48 (by decide)
 ·exact zP hg fF10 (by decide)
 ·exact zP hg fF23 (by decide)
 ·exact zP hg fF36 (by decide)
 ·exact zP hg fF49 (by decide)
 ·exact zP hg fF11 (by decide)
 ·exact zP hg fF12 (by decide)
 ·exact zP hg fF25 (by decide)
end VM
end Go.Proofs.YtbchdlelmkmagaaGreatDoor
