/- Runs of the law. Conditions: none. -/
import Derived.Test.YtfgajganahpmhaaGreatRRRepNoneC
namespace Go.Proofs.YtfgajganahpmhaaGreatRR.repNone
open VS
theorem run18 : isTrue (acallK tabs cfg 400 4 [.int .i64 3, .int .i64 0] [] [] 0) = true := by kernel_rfl
theorem run19 : isTrue (acallK tabs cfg 400 4 [.int .i64 3, .int .i64 1] [] [] 0) = true := by kernel_rfl
theorem run20 : isTrue (acallK tabs cfg 400 4 [.int .i64 3, .int .i64 2] [] [] 0) = true := by kernel_rfl
theorem run21 : isTrue (acallK tabs cfg 400 4 [.int .i64 3, .int .i64 3] [] [] 0) = true := by kernel_rfl
theorem run22 : isTrue (acallK tabs cfg 400 4 [.int .i64 3, .int .i64 4] [] [] 0) = true := by kernel_rfl
theorem run23 : isTrue (acallK tabs cfg 400 4 [.int .i64 3, .int .i64 5] [] [] 0) = true := by kernel_rfl
theorem run24 : isTrue (acallK tabs cfg 400 4 [.int .i64 3, .rng 1 .i64 (6) (9223372036854775807)] [] [] 0) = true := by kernel_rfl
theorem run25 : isTrue (acallK tabs cfg 400 4 [.rng 0 .i64 (4) (9223372036854775807), .dead] [] [] 0) = true := by kernel_rfl
end Go.Proofs.YtfgajganahpmhaaGreatRR.repNone
