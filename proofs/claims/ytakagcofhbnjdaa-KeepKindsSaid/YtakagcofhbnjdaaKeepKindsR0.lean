/- Runs of the law. Conditions: none. -/
import Derived.Test.YtakagcofhbnjdaaKeepKindsC
namespace Go.Proofs.Ytakagcofhbnjdaa.keepKinds
open VS
theorem run0 : isTrue (acallK tabs cfg 100 6 [.rng 0 .i64 (-9223372036854775808) (-1), .dead] [] [] 0) = true := by kernel_rfl
theorem run1 : isTrue (acallK tabs cfg 100 6 [.int .i64 0, .rng 1 .i64 (-9223372036854775808) (-1)] [] [] 0) = true := by kernel_rfl
theorem run2 : isTrue (acallK tabs cfg 100 6 [.int .i64 0, .lin 1 16 0 0 2047] [] [] 0) = true := by kernel_rfl
theorem run3 : isTrue (acallK tabs cfg 100 6 [.int .i64 0, .lin 1 16 1 0 2047] [] [] 0) = true := by kernel_rfl
theorem run4 : isTrue (acallK tabs cfg 100 6 [.int .i64 0, .lin 1 16 2 0 2047] [] [] 0) = true := by kernel_rfl
theorem run5 : isTrue (acallK tabs cfg 100 6 [.int .i64 0, .lin 1 16 3 0 2047] [] [] 0) = true := by kernel_rfl
theorem run6 : isTrue (acallK tabs cfg 100 6 [.int .i64 0, .lin 1 16 4 0 2047] [] [] 0) = true := by kernel_rfl
theorem run7 : isTrue (acallK tabs cfg 100 6 [.int .i64 0, .lin 1 16 5 0 2047] [] [] 0) = true := by kernel_rfl
end Go.Proofs.Ytakagcofhbnjdaa.keepKinds
