/- What functions answer at given texts: the kernel ran them. Written by memogen.py. -/
import Derived.Test.YtgminjlnnpaefaaGreatDoorVmN
import Derived.Test.YtgminjlnnpaefaaGreatDoorVmZ
namespace Go.Proofs.YtgminjlnnpaefaaGreatDoor.VM
open Go
noncomputable section
def dr_cell_Formula0 : Memo := ⟨[.str [61, 65, 50]], .tup [.slo 0 0 1 1 14, .bool true], [.cells [.int .i64 (.ofNat 5), .int .i64 (.ofNat 0), .str [], .str [], .int .i64 (.ofNat 0), .int .i64 (.ofNat 1), .bool false, .bool false, .str [], .int .i64 (.ofNat 0), .int .i64 (.ofNat 0), .bool false, .bool false, .nils] 68 false]⟩
theorem dr_cell_Formula0_run : look [98] 108 (callOf E (exec E 3000) 23 dr_cell_Formula0.al ⟨.leaf, 0⟩) = some (dr_cell_Formula0.v.ren (rn [98] 108), dr_cell_Formula0.bs.map (Blk.ren (rn [98] 108))) := by kernel_rfl
theorem dr_cell_Formula0_ok : MemoOK Tryz.prog 23 dr_cell_Formula0 :=
  @memoOK_of Tryz.prog E envOK @idleOK @hooksOK nameOK 23 3000 108 [98] dr_cell_Formula0 dr_cell_Formula0_run rfl rfl (by decide)
def dr_cell_Formula1 : Memo := ⟨[.str [61, 65, 51]], .tup [.slo 0 0 1 1 14, .bool true], [.cells [.int .i64 (.ofNat 5), .int .i64 (.ofNat 0), .str [], .str [], .int .i64 (.ofNat 0), .int .i64 (.ofNat 2), .bool false, .bool false, .str [], .int .i64 (.ofNat 0), .int .i64 (.ofNat 0), .bool false, .bool false, .nils] 68 false]⟩
theorem dr_cell_Formula1_run : look [98] 108 (callOf E (exec E 3000) 23 dr_cell_Formula1.al ⟨.leaf, 0⟩) = some (dr_cell_Formula1.v.ren (rn [98] 108), dr_cell_Formula1.bs.map (Blk.ren (rn [98] 108))) := by kernel_rfl
theorem dr_cell_Formula1_ok : MemoOK Tryz.prog 23 dr_cell_Formula1 :=
  @memoOK_of Tryz.prog E envOK @idleOK @hooksOK nameOK 23 3000 108 [98] dr_cell_Formula1 dr_cell_Formula1_run rfl rfl (by decide)
def dr_cell_Formula2 : Memo := ⟨[.str [61, 65, 52]], .tup [.slo 0 0 1 1 14, .bool true], [.cells [.int .i64 (.ofNat 5), .int .i64 (.ofNat 0), .str [], .str [], .int .i64 (.ofNat 0), .int .i64 (.ofNat 3), .bool false, .bool false, .str [], .int .i64 (.ofNat 0), .int .i64 (.ofNat 0), .bool false, .bool false, .nils] 68 false]⟩
theorem dr_cell_Formula2_run : look [98] 108 (callOf E (exec E 3000) 23 dr_cell_Formula2.al ⟨.leaf, 0⟩) = some (dr_cell_Formula2.v.ren (rn [98] 108), dr_cell_Formula2.bs.map (Blk.ren (rn [98] 108))) := by kernel_rfl
theorem dr_cell_Formula2_ok : MemoOK Tryz.prog 23 dr_cell_Formula2 :=
  @memoOK_of Tryz.prog E envOK @idleOK @hooksOK nameOK 23 3000 108 [98] dr_cell_Formula2 dr_cell_Formula2_run rfl rfl (by decide)
def dr_cell_Formula3 : Memo := ⟨[.str [61, 65, 53]], .tup [.slo 0 0 1 1 14, .bool true], [.cells [.int .i64 (.ofNat 5), .int .i64 (.ofNat 0), .str [], .str [], .int .i64 (.ofNat 0), .int .i64 (.ofNat 4), .bool false, .bool false, .str [], .int .i64 (.ofNat 0), .int .i64 (.ofNat 0), .bool false, .bool false, .nils] 68 false]⟩
theorem dr_cell_Formula3_run : look [98] 108 (callOf E (exec E 3000) 23 dr_cell_Formula3.al ⟨.leaf, 0⟩) = some (dr_cell_Formula3.v.ren (rn [98] 108), dr_cell_Formula3.bs.map (Blk.ren (rn [98] 108))) := by kernel_rfl
theorem dr_cell_Formula3_ok : MemoOK Tryz.prog 23 dr_cell_Formula3 :=
  @memoOK_of Tryz.prog E envOK @idleOK @hooksOK nameOK 23 3000 108 [98] dr_cell_Formula3 dr_cell_Formula3_run rfl rfl (by decide)
def dr_cell_Formula4 : Memo := ⟨[.str [61, 65, 54]], .tup [.slo 0 0 1 1 14, .bool true], [.cells [.int .i64 (.ofNat 5), .int .i64 (.ofNat 0), .str [], .str [], .int .i64 (.ofNat 0), .int .i64 (.ofNat 5), .bool false, .bool false, .str [], .int .i64 (.ofNat 0), .int .i64 (.ofNat 0), .bool false, .bool false, .nils] 68 false]⟩
theorem dr_cell_Formula4_run : look [98] 108 (callOf E (exec E 3000) 23 dr_cell_Formula4.al ⟨.leaf, 0⟩) = some (dr_cell_Formula4.v.ren (rn [98] 108), dr_cell_Formula4.bs.map (Blk.ren (rn [98] 108))) := by kernel_rfl
theorem dr_cell_Formula4_ok : MemoOK Tryz.prog 23 dr_cell_Formula4 :=
  @memoOK_of Tryz.prog E envOK @idleOK @hooksOK nameOK 23 3000 108 [98] dr_cell_Formula4 dr_cell_Formula4_run rfl rfl (by decide)
def dr_cell_Formula5 : Memo := ⟨[.str [61, 65, 55]], .tup [.slo 0 0 1 1 14, .bool true], [.cells [.int .i64 (.ofNat 5), .int .i64 (.ofNat 0), .str [], .str [], .int .i64 (.ofNat 0), .int .i64 (.ofNat 6), .bool false, .bool false, .str [], .int .i64 (.ofNat 0), .int .i64 (.ofNat 0), .bool false, .bool false, .nils] 68 false]⟩
theorem dr_cell_Formula5_run : look [98] 108 (callOf E (exec E 3000) 23 dr_cell_Formula5.al ⟨.leaf, 0⟩) = some (dr_cell_Formula5.v.ren (rn [98] 108), dr_cell_Formula5.bs.map (Blk.ren (rn [98] 108))) := by kernel_rfl
theorem dr_cell_Formula5_ok : MemoOK Tryz.prog 23 dr_cell_Formula5 :=
  @memoOK_of Tryz.prog E envOK @idleOK @hooksOK nameOK 23 3000 108 [98] dr_cell_Formula5 dr_cell_Formula5_run rfl rfl (by decide)
def dr_cell_Formula6 : Memo := ⟨[.str [61, 65, 56]], .tup [.slo 0 0 1 1 14, .bool true], [.cells [.int .i64 (.ofNat 5), .int .i64 (.ofNat 0), .str [], .str [], .int .i64 (.ofNat 0), .int .i64 (.ofNat 7), .bool false, .bool false, .str [], .int .i64 (.ofNat 0), .int .i64 (.ofNat 0), .bool false, .bool false, .nils] 68 false]⟩
theorem dr_cell_Formula6_run : look [98] 108 (callOf E (exec E 3000) 23 dr_cell_Formula6.al ⟨.leaf, 0⟩) = some (dr_cell_Formula6.v.ren (rn [98] 108), dr_cell_Formula6.bs.map (Blk.ren (rn [98] 108))) := by kernel_rfl
theorem dr_cell_Formula6_ok : MemoOK Tryz.prog 23 dr_cell_Formula6 :=
  @memoOK_of Tryz.prog E envOK @idleOK @hooksOK nameOK 23 3000 108 [98] dr_cell_Formula6 dr_cell_Formula6_run rfl rfl (by decide)
def dr_cell_Formula7 : Memo := ⟨[.str [61, 65, 57]], .tup [.slo 0 0 1 1 14, .bool true], [.cells [.int .i64 (.ofNat 5), .int .i64 (.ofNat 0), .str [], .str [], .int .i64 (.ofNat 0), .int .i64 (.ofNat 8), .bool false, .bool false, .str [], .int .i64 (.ofNat 0), .int .i64 (.ofNat 0), .bool false, .bool false, .nils] 68 false]⟩
theorem dr_cell_Formula7_run : look [98] 108 (callOf E (exec E 3000) 23 dr_cell_Formula7.al ⟨.leaf, 0⟩) = some (dr_cell_Formula7.v.ren (rn [98] 108), dr_cell_Formula7.bs.map (Blk.ren (rn [98] 108))) := by kernel_rfl
theorem dr_cell_Formula7_ok : MemoOK Tryz.prog 23 dr_cell_Formula7 :=
  @memoOK_of Tryz.prog E envOK @idleOK @hooksOK nameOK 23 3000 108 [98] dr_cell_Formula7 dr_cell_Formula7_run rfl rfl (by decide)
def dr_cell_Formula8 : Memo := ⟨[.str [61, 65, 49, 48]], .tup [.slo 0 0 1 1 14, .bool true], [.cells [.int .i64 (.ofNat 5), .int .i64 (.ofNat 0), .str [], .str [], .int .i64 (.ofNat 0), .int .i64 (.ofNat 9), .bool false, .bool false, .str [], .int .i64 (.ofNat 0), .int .i64 (.ofNat 0), .bool false, .bool false, .nils] 68 false]⟩
theorem dr_cell_Formula8_run : look [98] 108 (callOf E (exec E 3000) 23 dr_cell_Formula8.al ⟨.leaf, 0⟩) = some (dr_cell_Formula8.v.ren (rn [98] 108), dr_cell_Formula8.bs.map (Blk.ren (rn [98] 108))) := by kernel_rfl
theorem dr_cell_Formula8_ok : MemoOK Tryz.prog 23 dr_cell_Formula8 :=
  @memoOK_of Tryz.prog E envOK @idleOK @hooksOK nameOK 23 3000 108 [98] dr_cell_Formula8 dr_cell_Formula8_run rfl rfl (by decide)
def dr_cell_Formula9 : Memo := ⟨[.str [61, 65, 49, 49]], .tup [.slo 0 0 1 1 14, .bool true], [.cells [.int .i64 (.ofNat 5), .int .i64 (.ofNat 0), .str [], .str [], .int .i64 (.ofNat 0), .int .i64 (.ofNat 10), .bool false, .bool false, .str [], .int .i64 (.ofNat 0), .int .i64 (.ofNat 0), .bool false, .bool false, .nils] 68 false]⟩
theorem dr_cell_Formula9_run : look [98] 108 (callOf E (exec E 3000) 23 dr_cell_Formula9.al ⟨.leaf, 0⟩) = some (dr_cell_Formula9.v.ren (rn [98] 108), dr_cell_Formula9.bs.map (Blk.ren (rn [98] 108))) := by kernel_rfl
theorem dr_cell_Formula9_ok : MemoOK Tryz.prog 23 dr_cell_Formula9 :=
  @memoOK_of Tryz.prog E envOK @idleOK @hooksOK nameOK 23 3000 108 [98] dr_cell_Formula9 dr_cell_Formula9_run rfl rfl (by decide)
def dr_cell_Formula10 : Memo := ⟨[.str [61, 65, 49, 50]], .tup [.slo 0 0 1 1 14, .bool true], [.cells [.int .i64 (.ofNat 5), .int .i64 (.ofNat 0), .str [], .str [], .int .i64 (.ofNat 0), .int .i64 (.ofNat 11), .bool false, .bool false, .str [], .int .i64 (.ofNat 0), .int .i64 (.ofNat 0), .bool false, .bool false, .nils] 68 false]⟩
theorem dr_cell_Formula10_run : look [98] 108 (callOf E (exec E 3000) 23 dr_cell_Formula10.al ⟨.leaf, 0⟩) = some (dr_cell_Formula10.v.ren (rn [98] 108), dr_cell_Formula10.bs.map (Blk.ren (rn [98] 108))) := by kernel_rfl
theorem dr_cell_Formula10_ok : MemoOK Tryz.prog 23 dr_cell_Formula10 :=
  @memoOK_of Tryz.prog E envOK @idleOK @hooksOK nameOK 23 3000 108 [98] dr_cell_Formula10 dr_cell_Formula10_run rfl rfl (by decide)
def dr_cell_Formula11 : Memo := ⟨[.str [61, 49]], .tup [.slo 0 0 1 1 14, .bool true], [.cells [.int .i64 (.ofNat 1), .int .i64 (.ofNat 1), .str [], .str [], .int .i64 (.ofNat 0), .int .i64 (.ofNat 0), .bool false, .bool false, .str [], .int .i64 (.ofNat 0), .int .i64 (.ofNat 0), .bool false, .bool false, .nils] 68 false]⟩
theorem dr_cell_Formula11_run : look [77] 87 (callOf E (exec E 3000) 23 dr_cell_Formula11.al ⟨.leaf, 0⟩) = some (dr_cell_Formula11.v.ren (rn [77] 87), dr_cell_Formula11.bs.map (Blk.ren (rn [77] 87))) := by kernel_rfl
theorem dr_cell_Formula11_ok : MemoOK Tryz.prog 23 dr_cell_Formula11 :=
  @memoOK_of Tryz.prog E envOK @idleOK @hooksOK nameOK 23 3000 87 [77] dr_cell_Formula11 dr_cell_Formula11_run rfl rfl (by decide)
def dr_cell_Formula12 : Memo := ⟨[.str [61, 65, 49]], .tup [.slo 0 0 1 1 14, .bool true], [.cells [.int .i64 (.ofNat 5), .int .i64 (.ofNat 0), .str [], .str [], .int .i64 (.ofNat 0), .int .i64 (.ofNat 0), .bool false, .bool false, .str [], .int .i64 (.ofNat 0), .int .i64 (.ofNat 0), .bool false, .bool false, .nils] 68 false]⟩
theorem dr_cell_Formula12_run : look [98] 108 (callOf E (exec E 3000) 23 dr_cell_Formula12.al ⟨.leaf, 0⟩) = some (dr_cell_Formula12.v.ren (rn [98] 108), dr_cell_Formula12.bs.map (Blk.ren (rn [98] 108))) := by kernel_rfl
theorem dr_cell_Formula12_ok : MemoOK Tryz.prog 23 dr_cell_Formula12 :=
  @memoOK_of Tryz.prog E envOK @idleOK @hooksOK nameOK 23 3000 108 [98] dr_cell_Formula12 dr_cell_Formula12_run rfl rfl (by decide)
def dr_cell_Formula : List Memo := [dr_cell_Formula0, dr_cell_Formula1, dr_cell_Formula2, dr_cell_Formula3, dr_cell_Formula4, dr_cell_Formula5, dr_cell_Formula6, dr_cell_Formula7, dr_cell_Formula8, dr_cell_Formula9, dr_cell_Formula10, dr_cell_Formula11, dr_cell_Formula12]
theorem dr_cell_Formula_ok : ∀ m ∈ dr_cell_Formula, MemoOK Tryz.prog 23 m := by
  intro m hm
  simp only [dr_cell_Formula, List.mem_cons, List.not_mem_nil, or_false] at hm
  rcases hm with rfl | rfl | rfl | rfl | rfl | rfl | rfl | rfl | rfl | rfl | rfl | rfl | rfl
  · exact @dr_cell_Formula0_ok
  · exact @dr_cell_Formula1_ok
  · exact @dr_cell_Formula2_ok
  · exact @dr_cell_Formula3_ok
  · exact @dr_cell_Formula4_ok
  · exact @dr_cell_Formula5_ok
  · exact @dr_cell_Formula6_ok
  · exact @dr_cell_Formula7_ok
  · exact @dr_cell_Formula8_ok
  · exact @dr_cell_Formula9_ok
  · exact @dr_cell_Formula10_ok
  · exact @dr_cell_Formula11_ok
  · exact @dr_cell_Formula12_ok
end
end Go.Proofs.YtgminjlnnpaefaaGreatDoor.VM
