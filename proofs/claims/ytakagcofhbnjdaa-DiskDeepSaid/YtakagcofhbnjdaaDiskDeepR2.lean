/- Runs of the law. Conditions: none. -/
import Derived.Test.YtakagcofhbnjdaaDiskDeepC
namespace Go.Proofs.Ytakagcofhbnjdaa.diskDeep
open VS
theorem run35 : isTrue (acallK tabs cfg 100 5 [.int .i64 17, .bool true] [] [] 0) = true := by kernel_rfl
theorem run36 : isTrue (acallK tabs cfg 100 5 [.int .i64 17, .bool false] [] [] 0) = true := by kernel_rfl
theorem run37 : isTrue (acallK tabs cfg 100 5 [.int .i64 18, .bool true] [] [] 0) = true := by kernel_rfl
theorem run38 : isTrue (acallK tabs cfg 100 5 [.int .i64 18, .bool false] [] [] 0) = true := by kernel_rfl
theorem run39 : isTrue (acallK tabs cfg 100 5 [.int .i64 19, .bool true] [] [] 0) = true := by kernel_rfl
theorem run40 : isTrue (acallK tabs cfg 100 5 [.int .i64 19, .bool false] [] [] 0) = true := by kernel_rfl
theorem run41 : isTrue (acallK tabs cfg 100 5 [.int .i64 20, .bool true] [] [] 0) = true := by kernel_rfl
theorem run42 : isTrue (acallK tabs cfg 100 5 [.int .i64 20, .bool false] [] [] 0) = true := by kernel_rfl
theorem run43 : isTrue (acallK tabs cfg 100 5 [.rng 0 .i64 (21) (9223372036854775807), .dead] [] [] 0) = true := by kernel_rfl
end Go.Proofs.Ytakagcofhbnjdaa.diskDeep
