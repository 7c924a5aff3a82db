/- Runs of the law. Conditions: none. -/
import Derived.Test.YtakagcofhbnjdaaKeepKindsC
namespace Go.Proofs.Ytakagcofhbnjdaa.keepKinds
open VS
theorem run8 : isTrue (acallK tabs cfg 100 6 [.int .i64 0, .lin 1 16 6 0 2047] [] [] 0) = true := by kernel_rfl
theorem run9 : isTrue (acallK tabs cfg 100 6 [.int .i64 0, .lin 1 16 7 0 2047] [] [] 0) = true := by kernel_rfl
theorem run10 : isTrue (acallK tabs cfg 100 6 [.int .i64 0, .lin 1 16 8 0 2047] [] [] 0) = true := by kernel_rfl
theorem run11 : isTrue (acallK tabs cfg 100 6 [.int .i64 0, .lin 1 16 9 0 2047] [] [] 0) = true := by kernel_rfl
theorem run12 : isTrue (acallK tabs cfg 100 6 [.int .i64 0, .lin 1 16 10 0 2047] [] [] 0) = true := by kernel_rfl
theorem run13 : isTrue (acallK tabs cfg 100 6 [.int .i64 0, .lin 1 16 11 0 2047] [] [] 0) = true := by kernel_rfl
theorem run14 : isTrue (acallK tabs cfg 100 6 [.int .i64 0, .lin 1 16 12 0 2047] [] [] 0) = true := by kernel_rfl
theorem run15 : isTrue (acallK tabs cfg 100 6 [.int .i64 0, .lin 1 16 13 0 2047] [] [] 0) = true := by kernel_rfl
end Go.Proofs.Ytakagcofhbnjdaa.keepKinds
