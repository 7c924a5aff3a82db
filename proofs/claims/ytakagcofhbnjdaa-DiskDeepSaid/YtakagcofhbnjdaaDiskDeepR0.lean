/- Runs of the law. Conditions: none. -/
import Derived.Test.YtakagcofhbnjdaaDiskDeepC
namespace Go.Proofs.Ytakagcofhbnjdaa.diskDeep
open VS
theorem run0 : isTrue (acallK tabs cfg 100 5 [.rng 0 .i64 (-9223372036854775808) (-1), .dead] [] [] 0) = true := by kernel_rfl
theorem run1 : isTrue (acallK tabs cfg 100 5 [.int .i64 0, .bool true] [] [] 0) = true := by kernel_rfl
theorem run2 : isTrue (acallK tabs cfg 100 5 [.int .i64 0, .bool false] [] [] 0) = true := by kernel_rfl
theorem run3 : isTrue (acallK tabs cfg 100 5 [.int .i64 1, .bool true] [] [] 0) = true := by kernel_rfl
theorem run4 : isTrue (acallK tabs cfg 100 5 [.int .i64 1, .bool false] [] [] 0) = true := by kernel_rfl
theorem run5 : isTrue (acallK tabs cfg 100 5 [.int .i64 2, .bool true] [] [] 0) = true := by kernel_rfl
theorem run6 : isTrue (acallK tabs cfg 100 5 [.int .i64 2, .bool false] [] [] 0) = true := by kernel_rfl
theorem run7 : isTrue (acallK tabs cfg 100 5 [.int .i64 3, .bool true] [] [] 0) = true := by kernel_rfl
theorem run8 : isTrue (acallK tabs cfg 100 5 [.int .i64 3, .bool false] [] [] 0) = true := by kernel_rfl
theorem run9 : isTrue (acallK tabs cfg 100 5 [.int .i64 4, .bool true] [] [] 0) = true := by kernel_rfl
theorem run10 : isTrue (acallK tabs cfg 100 5 [.int .i64 4, .bool false] [] [] 0) = true := by kernel_rfl
theorem run11 : isTrue (acallK tabs cfg 100 5 [.int .i64 5, .bool true] [] [] 0) = true := by kernel_rfl
theorem run12 : isTrue (acallK tabs cfg 100 5 [.int .i64 5, .bool false] [] [] 0) = true := by kernel_rfl
theorem run13 : isTrue (acallK tabs cfg 100 5 [.int .i64 6, .bool true] [] [] 0) = true := by kernel_rfl
theorem run14 : isTrue (acallK tabs cfg 100 5 [.int .i64 6, .bool false] [] [] 0) = true := by kernel_rfl
theorem run15 : isTrue (acallK tabs cfg 100 5 [.int .i64 7, .bool true] [] [] 0) = true := by kernel_rfl
theorem run16 : isTrue (acallK tabs cfg 100 5 [.int .i64 7, .bool false] [] [] 0) = true := by kernel_rfl
theorem run17 : isTrue (acallK tabs cfg 100 5 [.int .i64 8, .bool true] [] [] 0) = true := by kernel_rfl
theorem run18 : isTrue (acallK tabs cfg 100 5 [.int .i64 8, .bool false] [] [] 0) = true := by kernel_rfl
theorem run19 : isTrue (acallK tabs cfg 100 5 [.int .i64 9, .bool true] [] [] 0) = true := by kernel_rfl
theorem run20 : isTrue (acallK tabs cfg 100 5 [.int .i64 9, .bool false] [] [] 0) = true := by kernel_rfl
theorem run21 : isTrue (acallK tabs cfg 100 5 [.int .i64 10, .bool true] [] [] 0) = true := by kernel_rfl
theorem run22 : isTrue (acallK tabs cfg 100 5 [.int .i64 10, .bool false] [] [] 0) = true := by kernel_rfl
theorem run23 : isTrue (acallK tabs cfg 100 5 [.int .i64 11, .bool true] [] [] 0) = true := by kernel_rfl
end Go.Proofs.Ytakagcofhbnjdaa.diskDeep
