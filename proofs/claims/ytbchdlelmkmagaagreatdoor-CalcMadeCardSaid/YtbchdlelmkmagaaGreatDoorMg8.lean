/- CmMemoM -/
import Derived.Test.YtbchdlelmkmagaaGreatDoorMg5
namespace Go.Proofs.YtbchdlelmkmagaaGreatDoor
namespace VM
open Go Go.RowKit
set_option maxRecDepth 20000
theorem fM0:mOKs 0 4=true:=by kernel_rfl
theorem fM4:mOKs 4 4=true:=by kernel_rfl
theorem fM8:mOKs 8 4=true:=by kernel_rfl
theorem fM12:mOKs 12 4=true:=by kernel_rfl
theorem fM16:mOKs 16 4=true:=by kernel_rfl
theorem fM20:mOKs 20 4=true:=by kernel_rfl
theorem fM24:mOKs 24 4=true:=by kernel_rfl
theorem fM28:mOKs 28 4=true:=by kernel_rfl
theorem fM32:mOKs 32 4=true:=by kernel_rfl
theorem fM36:mOKs 36 4=true:=by kernel_rfl
theorem fM_all:zcR.all mOK=true:=by
 have e:zcR=zh3.map txt:=rfl
 rw [e,List.all_map]
 have s:zh3=(zh3.drop 0).take 4++(zh3.drop 4).take 4++(zh3.drop 8).take 4++(zh3.drop 12).take 4++(zh3.drop 16).take 4++(zh3.drop 20).take 4++(zh3.drop 24).take 4++(zh3.drop 28).take 4++(zh3.drop 32).take 4++(zh3.drop 36).take 4:=rfl
 rw [s]
 simp only [List.all_append,Bool.and_eq_true]
 exact ⟨⟨⟨⟨⟨⟨⟨⟨⟨fM0,fM4⟩,fM8⟩,fM12⟩,fM16⟩,fM20⟩,fM24⟩,fM28⟩,fM32⟩,fM36⟩
theorem fPlA:zcR.all (plOK 17)=true:=by kernel_rfl
theorem fPlB:zcR.all (plOK 13)=true:=by kernel_rfl
end VM
end Go.Proofs.YtbchdlelmkmagaaGreatDoor
