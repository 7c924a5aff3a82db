/- Runs of the law. Conditions: none. -/
import Derived.Test.YtfgajganahpmhaaGreatRRRepNoneC
namespace Go.Proofs.YtfgajganahpmhaaGreatRR.repNone
open VS
theorem run9 : isTrue (acallK tabs cfg 400 4 [.int .i64 2, .rng 1 .i64 (-9223372036854775808) (-1)] [] [] 0) = true := by kernel_rfl
theorem run10 : isTrue (acallK tabs cfg 400 4 [.int .i64 2, .int .i64 0] [] [] 0) = true := by kernel_rfl
theorem run11 : isTrue (acallK tabs cfg 400 4 [.int .i64 2, .int .i64 1] [] [] 0) = true := by kernel_rfl
theorem run12 : isTrue (acallK tabs cfg 400 4 [.int .i64 2, .int .i64 2] [] [] 0) = true := by kernel_rfl
theorem run13 : isTrue (acallK tabs cfg 400 4 [.int .i64 2, .int .i64 3] [] [] 0) = true := by kernel_rfl
theorem run14 : isTrue (acallK tabs cfg 400 4 [.int .i64 2, .int .i64 4] [] [] 0) = true := by kernel_rfl
theorem run15 : isTrue (acallK tabs cfg 400 4 [.int .i64 2, .int .i64 5] [] [] 0) = true := by kernel_rfl
theorem run16 : isTrue (acallK tabs cfg 400 4 [.int .i64 2, .rng 1 .i64 (6) (9223372036854775807)] [] [] 0) = true := by kernel_rfl
theorem run17 : isTrue (acallK tabs cfg 400 4 [.int .i64 3, .rng 1 .i64 (-9223372036854775808) (-1)] [] [] 0) = true := by kernel_rfl
end Go.Proofs.YtfgajganahpmhaaGreatRR.repNone
