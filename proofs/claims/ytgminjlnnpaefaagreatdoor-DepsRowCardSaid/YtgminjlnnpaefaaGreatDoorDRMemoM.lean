/- What functions answer at given texts: the kernel ran them. Written by memogen.py. -/
import Derived.Test.YtgminjlnnpaefaaGreatDoorVmN
import Derived.Test.YtgminjlnnpaefaaGreatDoorVmZ
namespace Go.Proofs.YtgminjlnnpaefaaGreatDoor.VM
open Go
noncomputable section
def dr_cell_May0 : Memo := ⟨[.str [61, 65, 50]], .bool true, []⟩
theorem dr_cell_May0_run : look [] 60 (callOf E (exec E 3000) 30 dr_cell_May0.al ⟨.leaf, 0⟩) = some (dr_cell_May0.v.ren (rn [] 60), dr_cell_May0.bs.map (Blk.ren (rn [] 60))) := by kernel_rfl
theorem dr_cell_May0_ok : MemoOK Tryz.prog 30 dr_cell_May0 :=
  @memoOK_of Tryz.prog E envOK @idleOK @hooksOK nameOK 30 3000 60 [] dr_cell_May0 dr_cell_May0_run rfl rfl (by decide)
def dr_cell_May1 : Memo := ⟨[.str [61, 65, 51]], .bool true, []⟩
theorem dr_cell_May1_run : look [] 60 (callOf E (exec E 3000) 30 dr_cell_May1.al ⟨.leaf, 0⟩) = some (dr_cell_May1.v.ren (rn [] 60), dr_cell_May1.bs.map (Blk.ren (rn [] 60))) := by kernel_rfl
theorem dr_cell_May1_ok : MemoOK Tryz.prog 30 dr_cell_May1 :=
  @memoOK_of Tryz.prog E envOK @idleOK @hooksOK nameOK 30 3000 60 [] dr_cell_May1 dr_cell_May1_run rfl rfl (by decide)
def dr_cell_May2 : Memo := ⟨[.str [61, 65, 52]], .bool true, []⟩
theorem dr_cell_May2_run : look [] 60 (callOf E (exec E 3000) 30 dr_cell_May2.al ⟨.leaf, 0⟩) = some (dr_cell_May2.v.ren (rn [] 60), dr_cell_May2.bs.map (Blk.ren (rn [] 60))) := by kernel_rfl
theorem dr_cell_May2_ok : MemoOK Tryz.prog 30 dr_cell_May2 :=
  @memoOK_of Tryz.prog E envOK @idleOK @hooksOK nameOK 30 3000 60 [] dr_cell_May2 dr_cell_May2_run rfl rfl (by decide)
def dr_cell_May3 : Memo := ⟨[.str [61, 65, 53]], .bool true, []⟩
theorem dr_cell_May3_run : look [] 60 (callOf E (exec E 3000) 30 dr_cell_May3.al ⟨.leaf, 0⟩) = some (dr_cell_May3.v.ren (rn [] 60), dr_cell_May3.bs.map (Blk.ren (rn [] 60))) := by kernel_rfl
theorem dr_cell_May3_ok : MemoOK Tryz.prog 30 dr_cell_May3 :=
  @memoOK_of Tryz.prog E envOK @idleOK @hooksOK nameOK 30 3000 60 [] dr_cell_May3 dr_cell_May3_run rfl rfl (by decide)
def dr_cell_May4 : Memo := ⟨[.str [61, 65, 54]], .bool true, []⟩
theorem dr_cell_May4_run : look [] 60 (callOf E (exec E 3000) 30 dr_cell_May4.al ⟨.leaf, 0⟩) = some (dr_cell_May4.v.ren (rn [] 60), dr_cell_May4.bs.map (Blk.ren (rn [] 60))) := by kernel_rfl
theorem dr_cell_May4_ok : MemoOK Tryz.prog 30 dr_cell_May4 :=
  @memoOK_of Tryz.prog E envOK @idleOK @hooksOK nameOK 30 3000 60 [] dr_cell_May4 dr_cell_May4_run rfl rfl (by decide)
def dr_cell_May5 : Memo := ⟨[.str [61, 65, 55]], .bool true, []⟩
theorem dr_cell_May5_run : look [] 60 (callOf E (exec E 3000) 30 dr_cell_May5.al ⟨.leaf, 0⟩) = some (dr_cell_May5.v.ren (rn [] 60), dr_cell_May5.bs.map (Blk.ren (rn [] 60))) := by kernel_rfl
theorem dr_cell_May5_ok : MemoOK Tryz.prog 30 dr_cell_May5 :=
  @memoOK_of Tryz.prog E envOK @idleOK @hooksOK nameOK 30 3000 60 [] dr_cell_May5 dr_cell_May5_run rfl rfl (by decide)
def dr_cell_May6 : Memo := ⟨[.str [61, 65, 56]], .bool true, []⟩
theorem dr_cell_May6_run : look [] 60 (callOf E (exec E 3000) 30 dr_cell_May6.al ⟨.leaf, 0⟩) = some (dr_cell_May6.v.ren (rn [] 60), dr_cell_May6.bs.map (Blk.ren (rn [] 60))) := by kernel_rfl
theorem dr_cell_May6_ok : MemoOK Tryz.prog 30 dr_cell_May6 :=
  @memoOK_of Tryz.prog E envOK @idleOK @hooksOK nameOK 30 3000 60 [] dr_cell_May6 dr_cell_May6_run rfl rfl (by decide)
def dr_cell_May7 : Memo := ⟨[.str [61, 65, 57]], .bool true, []⟩
theorem dr_cell_May7_run : look [] 60 (callOf E (exec E 3000) 30 dr_cell_May7.al ⟨.leaf, 0⟩) = some (dr_cell_May7.v.ren (rn [] 60), dr_cell_May7.bs.map (Blk.ren (rn [] 60))) := by kernel_rfl
theorem dr_cell_May7_ok : MemoOK Tryz.prog 30 dr_cell_May7 :=
  @memoOK_of Tryz.prog E envOK @idleOK @hooksOK nameOK 30 3000 60 [] dr_cell_May7 dr_cell_May7_run rfl rfl (by decide)
def dr_cell_May8 : Memo := ⟨[.str [61, 65, 49, 48]], .bool true, []⟩
theorem dr_cell_May8_run : look [] 60 (callOf E (exec E 3000) 30 dr_cell_May8.al ⟨.leaf, 0⟩) = some (dr_cell_May8.v.ren (rn [] 60), dr_cell_May8.bs.map (Blk.ren (rn [] 60))) := by kernel_rfl
theorem dr_cell_May8_ok : MemoOK Tryz.prog 30 dr_cell_May8 :=
  @memoOK_of Tryz.prog E envOK @idleOK @hooksOK nameOK 30 3000 60 [] dr_cell_May8 dr_cell_May8_run rfl rfl (by decide)
def dr_cell_May9 : Memo := ⟨[.str [61, 65, 49, 49]], .bool true, []⟩
theorem dr_cell_May9_run : look [] 60 (callOf E (exec E 3000) 30 dr_cell_May9.al ⟨.leaf, 0⟩) = some (dr_cell_May9.v.ren (rn [] 60), dr_cell_May9.bs.map (Blk.ren (rn [] 60))) := by kernel_rfl
theorem dr_cell_May9_ok : MemoOK Tryz.prog 30 dr_cell_May9 :=
  @memoOK_of Tryz.prog E envOK @idleOK @hooksOK nameOK 30 3000 60 [] dr_cell_May9 dr_cell_May9_run rfl rfl (by decide)
def dr_cell_May10 : Memo := ⟨[.str [61, 65, 49, 50]], .bool true, []⟩
theorem dr_cell_May10_run : look [] 60 (callOf E (exec E 3000) 30 dr_cell_May10.al ⟨.leaf, 0⟩) = some (dr_cell_May10.v.ren (rn [] 60), dr_cell_May10.bs.map (Blk.ren (rn [] 60))) := by kernel_rfl
theorem dr_cell_May10_ok : MemoOK Tryz.prog 30 dr_cell_May10 :=
  @memoOK_of Tryz.prog E envOK @idleOK @hooksOK nameOK 30 3000 60 [] dr_cell_May10 dr_cell_May10_run rfl rfl (by decide)
def dr_cell_May11 : Memo := ⟨[.str [61, 49]], .bool true, []⟩
theorem dr_cell_May11_run : look [] 48 (callOf E (exec E 3000) 30 dr_cell_May11.al ⟨.leaf, 0⟩) = some (dr_cell_May11.v.ren (rn [] 48), dr_cell_May11.bs.map (Blk.ren (rn [] 48))) := by kernel_rfl
theorem dr_cell_May11_ok : MemoOK Tryz.prog 30 dr_cell_May11 :=
  @memoOK_of Tryz.prog E envOK @idleOK @hooksOK nameOK 30 3000 48 [] dr_cell_May11 dr_cell_May11_run rfl rfl (by decide)
def dr_cell_May12 : Memo := ⟨[.str [61, 65, 49]], .bool true, []⟩
theorem dr_cell_May12_run : look [] 60 (callOf E (exec E 3000) 30 dr_cell_May12.al ⟨.leaf, 0⟩) = some (dr_cell_May12.v.ren (rn [] 60), dr_cell_May12.bs.map (Blk.ren (rn [] 60))) := by kernel_rfl
theorem dr_cell_May12_ok : MemoOK Tryz.prog 30 dr_cell_May12 :=
  @memoOK_of Tryz.prog E envOK @idleOK @hooksOK nameOK 30 3000 60 [] dr_cell_May12 dr_cell_May12_run rfl rfl (by decide)
def dr_cell_May : List Memo := [dr_cell_May0, dr_cell_May1, dr_cell_May2, dr_cell_May3, dr_cell_May4, dr_cell_May5, dr_cell_May6, dr_cell_May7, dr_cell_May8, dr_cell_May9, dr_cell_May10, dr_cell_May11, dr_cell_May12]
theorem dr_cell_May_ok : ∀ m ∈ dr_cell_May, MemoOK Tryz.prog 30 m := by
  intro m hm
  simp only [dr_cell_May, List.mem_cons, List.not_mem_nil, or_false] at hm
  rcases hm with rfl | rfl | rfl | rfl | rfl | rfl | rfl | rfl | rfl | rfl | rfl | rfl | rfl
  · exact @dr_cell_May0_ok
  · exact @dr_cell_May1_ok
  · exact @dr_cell_May2_ok
  · exact @dr_cell_May3_ok
  · exact @dr_cell_May4_ok
  · exact @dr_cell_May5_ok
  · exact @dr_cell_May6_ok
  · exact @dr_cell_May7_ok
  · exact @dr_cell_May8_ok
  · exact @dr_cell_May9_ok
  · exact @dr_cell_May10_ok
  · exact @dr_cell_May11_ok
  · exact @dr_cell_May12_ok
end
end Go.Proofs.YtgminjlnnpaefaaGreatDoor.VM
