/- Runs of the law. Conditions: none. -/
import Derived.Test.YtakagcofhbnjdaaKeepKindsC
namespace Go.Proofs.Ytakagcofhbnjdaa.keepKinds
open VS
theorem run16 : isTrue (acallK tabs cfg 100 6 [.int .i64 0, .lin 1 16 14 0 2047] [] [] 0) = true := by kernel_rfl
theorem run17 : isTrue (acallK tabs cfg 100 6 [.int .i64 0, .lin 1 16 15 0 2047] [] [] 0) = true := by kernel_rfl
theorem run18 : isTrue (acallK tabs cfg 100 6 [.int .i64 0, .int .i64 32768] [] [] 0) = true := by kernel_rfl
theorem run19 : isTrue (acallK tabs cfg 100 6 [.int .i64 0, .rng 1 .i64 (32769) (9223372036854775807)] [] [] 0) = true := by kernel_rfl
theorem run20 : isTrue (acallK tabs cfg 100 6 [.int .i64 1, .dead] [] [] 0) = true := by kernel_rfl
theorem run21 : isTrue (acallK tabs cfg 100 6 [.int .i64 2, .dead] [] [] 0) = true := by kernel_rfl
theorem run22 : isTrue (acallK tabs cfg 100 6 [.rng 0 .i64 (3) (9223372036854775807), .dead] [] [] 0) = true := by kernel_rfl
end Go.Proofs.Ytakagcofhbnjdaa.keepKinds
