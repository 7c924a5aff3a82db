/- Runs of the law. Conditions: none. -/
import Derived.Test.YtfgajganahpmhaaGreatRRRepNoneC
namespace Go.Proofs.YtfgajganahpmhaaGreatRR.repNone
open VS
theorem run0 : isTrue (acallK tabs cfg 400 4 [.rng 0 .i64 (-9223372036854775808) (0), .dead] [] [] 0) = true := by kernel_rfl
theorem run1 : isTrue (acallK tabs cfg 400 4 [.int .i64 1, .rng 1 .i64 (-9223372036854775808) (-1)] [] [] 0) = true := by kernel_rfl
theorem run2 : isTrue (acallK tabs cfg 400 4 [.int .i64 1, .int .i64 0] [] [] 0) = true := by kernel_rfl
theorem run3 : isTrue (acallK tabs cfg 400 4 [.int .i64 1, .int .i64 1] [] [] 0) = true := by kernel_rfl
theorem run4 : isTrue (acallK tabs cfg 400 4 [.int .i64 1, .int .i64 2] [] [] 0) = true := by kernel_rfl
theorem run5 : isTrue (acallK tabs cfg 400 4 [.int .i64 1, .int .i64 3] [] [] 0) = true := by kernel_rfl
theorem run6 : isTrue (acallK tabs cfg 400 4 [.int .i64 1, .int .i64 4] [] [] 0) = true := by kernel_rfl
theorem run7 : isTrue (acallK tabs cfg 400 4 [.int .i64 1, .int .i64 5] [] [] 0) = true := by kernel_rfl
theorem run8 : isTrue (acallK tabs cfg 400 4 [.int .i64 1, .rng 1 .i64 (6) (9223372036854775807)] [] [] 0) = true := by kernel_rfl
end Go.Proofs.YtfgajganahpmhaaGreatRR.repNone
