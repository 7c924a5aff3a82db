/- Runs of the law. Conditions: none. -/
import Derived.Test.YtakagcofhbnjdaaDiskDeepC
namespace Go.Proofs.Ytakagcofhbnjdaa.diskDeep
open VS
theorem run24 : isTrue (acallK tabs cfg 100 5 [.int .i64 11, .bool false] [] [] 0) = true := by kernel_rfl
theorem run25 : isTrue (acallK tabs cfg 100 5 [.int .i64 12, .bool true] [] [] 0) = true := by kernel_rfl
theorem run26 : isTrue (acallK tabs cfg 100 5 [.int .i64 12, .bool false] [] [] 0) = true := by kernel_rfl
theorem run27 : isTrue (acallK tabs cfg 100 5 [.int .i64 13, .bool true] [] [] 0) = true := by kernel_rfl
theorem run28 : isTrue (acallK tabs cfg 100 5 [.int .i64 13, .bool false] [] [] 0) = true := by kernel_rfl
theorem run29 : isTrue (acallK tabs cfg 100 5 [.int .i64 14, .bool true] [] [] 0) = true := by kernel_rfl
theorem run30 : isTrue (acallK tabs cfg 100 5 [.int .i64 14, .bool false] [] [] 0) = true := by kernel_rfl
theorem run31 : isTrue (acallK tabs cfg 100 5 [.int .i64 15, .bool true] [] [] 0) = true := by kernel_rfl
theorem run32 : isTrue (acallK tabs cfg 100 5 [.int .i64 15, .bool false] [] [] 0) = true := by kernel_rfl
theorem run33 : isTrue (acallK tabs cfg 100 5 [.int .i64 16, .bool true] [] [] 0) = true := by kernel_rfl
theorem run34 : isTrue (acallK tabs cfg 100 5 [.int .i64 16, .bool false] [] [] 0) = true := by kernel_rfl
end Go.Proofs.Ytakagcofhbnjdaa.diskDeep
