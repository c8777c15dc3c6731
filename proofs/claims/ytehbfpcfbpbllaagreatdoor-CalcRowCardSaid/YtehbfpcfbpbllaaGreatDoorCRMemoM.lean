/- What functions answer at given texts: the kernel ran them. Written by memogen.py. -/
import Derived.Test.YtehbfpcfbpbllaaGreatDoorVmN
import Derived.Test.YtehbfpcfbpbllaaGreatDoorVmZ
namespace Go.Proofs.YtehbfpcfbpbllaaGreatDoor.VM
open Go
set_option linter.unusedSectionVars false
variable [Sy]
noncomputable section
def cr_cell_May0 : Memo := ⟨[.str [61, 65, 49, 43, 49]], .bool true, []⟩
theorem cr_cell_May0_run : look [] 104 (callOf E (exec E 3000) 30 cr_cell_May0.al ⟨.leaf, 0⟩) = some (cr_cell_May0.v.ren (rn [] 104), cr_cell_May0.bs.map (Blk.ren (rn [] 104))) := by kernel_rfl
theorem cr_cell_May0_ok : MemoOK Tryz.prog 30 cr_cell_May0 :=
  @memoOK_of _ Tryz.prog E envOK (@idleOK _) (@hooksOK _) nameOK 30 3000 104 [] cr_cell_May0 cr_cell_May0_run rfl rfl (by decide)
def cr_cell_May1 : Memo := ⟨[.str [61, 66, 49, 43, 49]], .bool true, []⟩
theorem cr_cell_May1_run : look [] 104 (callOf E (exec E 3000) 30 cr_cell_May1.al ⟨.leaf, 0⟩) = some (cr_cell_May1.v.ren (rn [] 104), cr_cell_May1.bs.map (Blk.ren (rn [] 104))) := by kernel_rfl
theorem cr_cell_May1_ok : MemoOK Tryz.prog 30 cr_cell_May1 :=
  @memoOK_of _ Tryz.prog E envOK (@idleOK _) (@hooksOK _) nameOK 30 3000 104 [] cr_cell_May1 cr_cell_May1_run rfl rfl (by decide)
def cr_cell_May2 : Memo := ⟨[.str [61, 67, 49, 43, 49]], .bool true, []⟩
theorem cr_cell_May2_run : look [] 104 (callOf E (exec E 3000) 30 cr_cell_May2.al ⟨.leaf, 0⟩) = some (cr_cell_May2.v.ren (rn [] 104), cr_cell_May2.bs.map (Blk.ren (rn [] 104))) := by kernel_rfl
theorem cr_cell_May2_ok : MemoOK Tryz.prog 30 cr_cell_May2 :=
  @memoOK_of _ Tryz.prog E envOK (@idleOK _) (@hooksOK _) nameOK 30 3000 104 [] cr_cell_May2 cr_cell_May2_run rfl rfl (by decide)
def cr_cell_May3 : Memo := ⟨[.str [61, 68, 49, 43, 49]], .bool true, []⟩
theorem cr_cell_May3_run : look [] 104 (callOf E (exec E 3000) 30 cr_cell_May3.al ⟨.leaf, 0⟩) = some (cr_cell_May3.v.ren (rn [] 104), cr_cell_May3.bs.map (Blk.ren (rn [] 104))) := by kernel_rfl
theorem cr_cell_May3_ok : MemoOK Tryz.prog 30 cr_cell_May3 :=
  @memoOK_of _ Tryz.prog E envOK (@idleOK _) (@hooksOK _) nameOK 30 3000 104 [] cr_cell_May3 cr_cell_May3_run rfl rfl (by decide)
def cr_cell_May4 : Memo := ⟨[.str [61, 69, 49, 43, 49]], .bool true, []⟩
theorem cr_cell_May4_run : look [] 104 (callOf E (exec E 3000) 30 cr_cell_May4.al ⟨.leaf, 0⟩) = some (cr_cell_May4.v.ren (rn [] 104), cr_cell_May4.bs.map (Blk.ren (rn [] 104))) := by kernel_rfl
theorem cr_cell_May4_ok : MemoOK Tryz.prog 30 cr_cell_May4 :=
  @memoOK_of _ Tryz.prog E envOK (@idleOK _) (@hooksOK _) nameOK 30 3000 104 [] cr_cell_May4 cr_cell_May4_run rfl rfl (by decide)
def cr_cell_May5 : Memo := ⟨[.str [61, 70, 49, 43, 49]], .bool true, []⟩
theorem cr_cell_May5_run : look [] 104 (callOf E (exec E 3000) 30 cr_cell_May5.al ⟨.leaf, 0⟩) = some (cr_cell_May5.v.ren (rn [] 104), cr_cell_May5.bs.map (Blk.ren (rn [] 104))) := by kernel_rfl
theorem cr_cell_May5_ok : MemoOK Tryz.prog 30 cr_cell_May5 :=
  @memoOK_of _ Tryz.prog E envOK (@idleOK _) (@hooksOK _) nameOK 30 3000 104 [] cr_cell_May5 cr_cell_May5_run rfl rfl (by decide)
def cr_cell_May6 : Memo := ⟨[.str [61, 71, 49, 43, 49]], .bool true, []⟩
theorem cr_cell_May6_run : look [] 104 (callOf E (exec E 3000) 30 cr_cell_May6.al ⟨.leaf, 0⟩) = some (cr_cell_May6.v.ren (rn [] 104), cr_cell_May6.bs.map (Blk.ren (rn [] 104))) := by kernel_rfl
theorem cr_cell_May6_ok : MemoOK Tryz.prog 30 cr_cell_May6 :=
  @memoOK_of _ Tryz.prog E envOK (@idleOK _) (@hooksOK _) nameOK 30 3000 104 [] cr_cell_May6 cr_cell_May6_run rfl rfl (by decide)
def cr_cell_May7 : Memo := ⟨[.str [61, 72, 49, 43, 49]], .bool true, []⟩
theorem cr_cell_May7_run : look [] 104 (callOf E (exec E 3000) 30 cr_cell_May7.al ⟨.leaf, 0⟩) = some (cr_cell_May7.v.ren (rn [] 104), cr_cell_May7.bs.map (Blk.ren (rn [] 104))) := by kernel_rfl
theorem cr_cell_May7_ok : MemoOK Tryz.prog 30 cr_cell_May7 :=
  @memoOK_of _ Tryz.prog E envOK (@idleOK _) (@hooksOK _) nameOK 30 3000 104 [] cr_cell_May7 cr_cell_May7_run rfl rfl (by decide)
def cr_cell_May8 : Memo := ⟨[.str [61, 73, 49, 43, 49]], .bool true, []⟩
theorem cr_cell_May8_run : look [] 104 (callOf E (exec E 3000) 30 cr_cell_May8.al ⟨.leaf, 0⟩) = some (cr_cell_May8.v.ren (rn [] 104), cr_cell_May8.bs.map (Blk.ren (rn [] 104))) := by kernel_rfl
theorem cr_cell_May8_ok : MemoOK Tryz.prog 30 cr_cell_May8 :=
  @memoOK_of _ Tryz.prog E envOK (@idleOK _) (@hooksOK _) nameOK 30 3000 104 [] cr_cell_May8 cr_cell_May8_run rfl rfl (by decide)
def cr_cell_May9 : Memo := ⟨[.str [61, 74, 49, 43, 49]], .bool true, []⟩
theorem cr_cell_May9_run : look [] 104 (callOf E (exec E 3000) 30 cr_cell_May9.al ⟨.leaf, 0⟩) = some (cr_cell_May9.v.ren (rn [] 104), cr_cell_May9.bs.map (Blk.ren (rn [] 104))) := by kernel_rfl
theorem cr_cell_May9_ok : MemoOK Tryz.prog 30 cr_cell_May9 :=
  @memoOK_of _ Tryz.prog E envOK (@idleOK _) (@hooksOK _) nameOK 30 3000 104 [] cr_cell_May9 cr_cell_May9_run rfl rfl (by decide)
def cr_cell_May10 : Memo := ⟨[.str [61, 66, 33, 65, 49]], .bool true, []⟩
theorem cr_cell_May10_run : look [] 60 (callOf E (exec E 3000) 30 cr_cell_May10.al ⟨.leaf, 0⟩) = some (cr_cell_May10.v.ren (rn [] 60), cr_cell_May10.bs.map (Blk.ren (rn [] 60))) := by kernel_rfl
theorem cr_cell_May10_ok : MemoOK Tryz.prog 30 cr_cell_May10 :=
  @memoOK_of _ Tryz.prog E envOK (@idleOK _) (@hooksOK _) nameOK 30 3000 60 [] cr_cell_May10 cr_cell_May10_run rfl rfl (by decide)
def cr_cell_May11 : Memo := ⟨[.str []], .bool true, []⟩
theorem cr_cell_May11_run : look [] 0 (callOf E (exec E 3000) 30 cr_cell_May11.al ⟨.leaf, 0⟩) = some (cr_cell_May11.v.ren (rn [] 0), cr_cell_May11.bs.map (Blk.ren (rn [] 0))) := by kernel_rfl
theorem cr_cell_May11_ok : MemoOK Tryz.prog 30 cr_cell_May11 :=
  @memoOK_of _ Tryz.prog E envOK (@idleOK _) (@hooksOK _) nameOK 30 3000 0 [] cr_cell_May11 cr_cell_May11_run rfl rfl (by decide)
def cr_cell_May : List Memo := [cr_cell_May0, cr_cell_May1, cr_cell_May2, cr_cell_May3, cr_cell_May4, cr_cell_May5, cr_cell_May6, cr_cell_May7, cr_cell_May8, cr_cell_May9, cr_cell_May10, cr_cell_May11]
theorem cr_cell_May_ok : ∀ m ∈ cr_cell_May, MemoOK Tryz.prog 30 m := by
  intro m hm
  simp only [cr_cell_May, List.mem_cons, List.not_mem_nil, or_false] at hm
  rcases hm with rfl | rfl | rfl | rfl | rfl | rfl | rfl | rfl | rfl | rfl | rfl | rfl
  · exact @cr_cell_May0_ok _
  · exact @cr_cell_May1_ok _
  · exact @cr_cell_May2_ok _
  · exact @cr_cell_May3_ok _
  · exact @cr_cell_May4_ok _
  · exact @cr_cell_May5_ok _
  · exact @cr_cell_May6_ok _
  · exact @cr_cell_May7_ok _
  · exact @cr_cell_May8_ok _
  · exact @cr_cell_May9_ok _
  · exact @cr_cell_May10_ok _
  · exact @cr_cell_May11_ok _
def cr_cell_Plain0 : Memo := ⟨[.str [61, 65, 49, 43, 49]], .agg [.int .i64 (.ofNat 4), .int .i64 (.ofNat 1), .str []], []⟩
theorem cr_cell_Plain0_run : look [] 2 (callOf E (exec E 3000) 11 cr_cell_Plain0.al ⟨.leaf, 0⟩) = some (cr_cell_Plain0.v.ren (rn [] 2), cr_cell_Plain0.bs.map (Blk.ren (rn [] 2))) := by kernel_rfl
theorem cr_cell_Plain0_ok : MemoOK Tryz.prog 11 cr_cell_Plain0 :=
  @memoOK_of _ Tryz.prog E envOK (@idleOK _) (@hooksOK _) nameOK 11 3000 2 [] cr_cell_Plain0 cr_cell_Plain0_run rfl rfl (by decide)
def cr_cell_Plain1 : Memo := ⟨[.str [61, 66, 49, 43, 49]], .agg [.int .i64 (.ofNat 4), .int .i64 (.ofNat 1), .str []], []⟩
theorem cr_cell_Plain1_run : look [] 2 (callOf E (exec E 3000) 11 cr_cell_Plain1.al ⟨.leaf, 0⟩) = some (cr_cell_Plain1.v.ren (rn [] 2), cr_cell_Plain1.bs.map (Blk.ren (rn [] 2))) := by kernel_rfl
theorem cr_cell_Plain1_ok : MemoOK Tryz.prog 11 cr_cell_Plain1 :=
  @memoOK_of _ Tryz.prog E envOK (@idleOK _) (@hooksOK _) nameOK 11 3000 2 [] cr_cell_Plain1 cr_cell_Plain1_run rfl rfl (by decide)
def cr_cell_Plain2 : Memo := ⟨[.str [61, 67, 49, 43, 49]], .agg [.int .i64 (.ofNat 4), .int .i64 (.ofNat 1), .str []], []⟩
theorem cr_cell_Plain2_run : look [] 2 (callOf E (exec E 3000) 11 cr_cell_Plain2.al ⟨.leaf, 0⟩) = some (cr_cell_Plain2.v.ren (rn [] 2), cr_cell_Plain2.bs.map (Blk.ren (rn [] 2))) := by kernel_rfl
theorem cr_cell_Plain2_ok : MemoOK Tryz.prog 11 cr_cell_Plain2 :=
  @memoOK_of _ Tryz.prog E envOK (@idleOK _) (@hooksOK _) nameOK 11 3000 2 [] cr_cell_Plain2 cr_cell_Plain2_run rfl rfl (by decide)
def cr_cell_Plain3 : Memo := ⟨[.str [61, 68, 49, 43, 49]], .agg [.int .i64 (.ofNat 4), .int .i64 (.ofNat 1), .str []], []⟩
theorem cr_cell_Plain3_run : look [] 2 (callOf E (exec E 3000) 11 cr_cell_Plain3.al ⟨.leaf, 0⟩) = some (cr_cell_Plain3.v.ren (rn [] 2), cr_cell_Plain3.bs.map (Blk.ren (rn [] 2))) := by kernel_rfl
theorem cr_cell_Plain3_ok : MemoOK Tryz.prog 11 cr_cell_Plain3 :=
  @memoOK_of _ Tryz.prog E envOK (@idleOK _) (@hooksOK _) nameOK 11 3000 2 [] cr_cell_Plain3 cr_cell_Plain3_run rfl rfl (by decide)
def cr_cell_Plain4 : Memo := ⟨[.str [61, 69, 49, 43, 49]], .agg [.int .i64 (.ofNat 4), .int .i64 (.ofNat 1), .str []], []⟩
theorem cr_cell_Plain4_run : look [] 2 (callOf E (exec E 3000) 11 cr_cell_Plain4.al ⟨.leaf, 0⟩) = some (cr_cell_Plain4.v.ren (rn [] 2), cr_cell_Plain4.bs.map (Blk.ren (rn [] 2))) := by kernel_rfl
theorem cr_cell_Plain4_ok : MemoOK Tryz.prog 11 cr_cell_Plain4 :=
  @memoOK_of _ Tryz.prog E envOK (@idleOK _) (@hooksOK _) nameOK 11 3000 2 [] cr_cell_Plain4 cr_cell_Plain4_run rfl rfl (by decide)
def cr_cell_Plain5 : Memo := ⟨[.str [61, 70, 49, 43, 49]], .agg [.int .i64 (.ofNat 4), .int .i64 (.ofNat 1), .str []], []⟩
theorem cr_cell_Plain5_run : look [] 2 (callOf E (exec E 3000) 11 cr_cell_Plain5.al ⟨.leaf, 0⟩) = some (cr_cell_Plain5.v.ren (rn [] 2), cr_cell_Plain5.bs.map (Blk.ren (rn [] 2))) := by kernel_rfl
theorem cr_cell_Plain5_ok : MemoOK Tryz.prog 11 cr_cell_Plain5 :=
  @memoOK_of _ Tryz.prog E envOK (@idleOK _) (@hooksOK _) nameOK 11 3000 2 [] cr_cell_Plain5 cr_cell_Plain5_run rfl rfl (by decide)
def cr_cell_Plain6 : Memo := ⟨[.str [61, 71, 49, 43, 49]], .agg [.int .i64 (.ofNat 4), .int .i64 (.ofNat 1), .str []], []⟩
theorem cr_cell_Plain6_run : look [] 2 (callOf E (exec E 3000) 11 cr_cell_Plain6.al ⟨.leaf, 0⟩) = some (cr_cell_Plain6.v.ren (rn [] 2), cr_cell_Plain6.bs.map (Blk.ren (rn [] 2))) := by kernel_rfl
theorem cr_cell_Plain6_ok : MemoOK Tryz.prog 11 cr_cell_Plain6 :=
  @memoOK_of _ Tryz.prog E envOK (@idleOK _) (@hooksOK _) nameOK 11 3000 2 [] cr_cell_Plain6 cr_cell_Plain6_run rfl rfl (by decide)
def cr_cell_Plain7 : Memo := ⟨[.str [61, 72, 49, 43, 49]], .agg [.int .i64 (.ofNat 4), .int .i64 (.ofNat 1), .str []], []⟩
theorem cr_cell_Plain7_run : look [] 2 (callOf E (exec E 3000) 11 cr_cell_Plain7.al ⟨.leaf, 0⟩) = some (cr_cell_Plain7.v.ren (rn [] 2), cr_cell_Plain7.bs.map (Blk.ren (rn [] 2))) := by kernel_rfl
theorem cr_cell_Plain7_ok : MemoOK Tryz.prog 11 cr_cell_Plain7 :=
  @memoOK_of _ Tryz.prog E envOK (@idleOK _) (@hooksOK _) nameOK 11 3000 2 [] cr_cell_Plain7 cr_cell_Plain7_run rfl rfl (by decide)
def cr_cell_Plain8 : Memo := ⟨[.str [61, 73, 49, 43, 49]], .agg [.int .i64 (.ofNat 4), .int .i64 (.ofNat 1), .str []], []⟩
theorem cr_cell_Plain8_run : look [] 2 (callOf E (exec E 3000) 11 cr_cell_Plain8.al ⟨.leaf, 0⟩) = some (cr_cell_Plain8.v.ren (rn [] 2), cr_cell_Plain8.bs.map (Blk.ren (rn [] 2))) := by kernel_rfl
theorem cr_cell_Plain8_ok : MemoOK Tryz.prog 11 cr_cell_Plain8 :=
  @memoOK_of _ Tryz.prog E envOK (@idleOK _) (@hooksOK _) nameOK 11 3000 2 [] cr_cell_Plain8 cr_cell_Plain8_run rfl rfl (by decide)
def cr_cell_Plain9 : Memo := ⟨[.str [61, 74, 49, 43, 49]], .agg [.int .i64 (.ofNat 4), .int .i64 (.ofNat 1), .str []], []⟩
theorem cr_cell_Plain9_run : look [] 2 (callOf E (exec E 3000) 11 cr_cell_Plain9.al ⟨.leaf, 0⟩) = some (cr_cell_Plain9.v.ren (rn [] 2), cr_cell_Plain9.bs.map (Blk.ren (rn [] 2))) := by kernel_rfl
theorem cr_cell_Plain9_ok : MemoOK Tryz.prog 11 cr_cell_Plain9 :=
  @memoOK_of _ Tryz.prog E envOK (@idleOK _) (@hooksOK _) nameOK 11 3000 2 [] cr_cell_Plain9 cr_cell_Plain9_run rfl rfl (by decide)
def cr_cell_Plain10 : Memo := ⟨[.str [61, 66, 33, 65, 49]], .agg [.int .i64 (.ofNat 4), .int .i64 (.ofNat 1), .str []], []⟩
theorem cr_cell_Plain10_run : look [] 2 (callOf E (exec E 3000) 11 cr_cell_Plain10.al ⟨.leaf, 0⟩) = some (cr_cell_Plain10.v.ren (rn [] 2), cr_cell_Plain10.bs.map (Blk.ren (rn [] 2))) := by kernel_rfl
theorem cr_cell_Plain10_ok : MemoOK Tryz.prog 11 cr_cell_Plain10 :=
  @memoOK_of _ Tryz.prog E envOK (@idleOK _) (@hooksOK _) nameOK 11 3000 2 [] cr_cell_Plain10 cr_cell_Plain10_run rfl rfl (by decide)
def cr_cell_Plain11 : Memo := ⟨[.str []], .agg [.int .i64 (.ofNat 0), .int .i64 (.ofNat 0), .str []], []⟩
theorem cr_cell_Plain11_run : look [] 1 (callOf E (exec E 3000) 11 cr_cell_Plain11.al ⟨.leaf, 0⟩) = some (cr_cell_Plain11.v.ren (rn [] 1), cr_cell_Plain11.bs.map (Blk.ren (rn [] 1))) := by kernel_rfl
theorem cr_cell_Plain11_ok : MemoOK Tryz.prog 11 cr_cell_Plain11 :=
  @memoOK_of _ Tryz.prog E envOK (@idleOK _) (@hooksOK _) nameOK 11 3000 1 [] cr_cell_Plain11 cr_cell_Plain11_run rfl rfl (by decide)
def cr_cell_Plain : List Memo := [cr_cell_Plain0, cr_cell_Plain1, cr_cell_Plain2, cr_cell_Plain3, cr_cell_Plain4, cr_cell_Plain5, cr_cell_Plain6, cr_cell_Plain7, cr_cell_Plain8, cr_cell_Plain9, cr_cell_Plain10, cr_cell_Plain11]
theorem cr_cell_Plain_ok : ∀ m ∈ cr_cell_Plain, MemoOK Tryz.prog 11 m := by
  intro m hm
  simp only [cr_cell_Plain, List.mem_cons, List.not_mem_nil, or_false] at hm
  rcases hm with rfl | rfl | rfl | rfl | rfl | rfl | rfl | rfl | rfl | rfl | rfl | rfl
  · exact @cr_cell_Plain0_ok _
  · exact @cr_cell_Plain1_ok _
  · exact @cr_cell_Plain2_ok _
  · exact @cr_cell_Plain3_ok _
  · exact @cr_cell_Plain4_ok _
  · exact @cr_cell_Plain5_ok _
  · exact @cr_cell_Plain6_ok _
  · exact @cr_cell_Plain7_ok _
  · exact @cr_cell_Plain8_ok _
  · exact @cr_cell_Plain9_ok _
  · exact @cr_cell_Plain10_ok _
  · exact @cr_cell_Plain11_ok _
end
end Go.Proofs.YtehbfpcfbpbllaaGreatDoor.VM
