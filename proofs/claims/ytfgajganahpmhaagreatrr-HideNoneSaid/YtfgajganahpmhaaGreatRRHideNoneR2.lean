/- Runs of the law. Conditions: none. -/
import Derived.Test.YtfgajganahpmhaaGreatRRHideNoneC
namespace Go.Proofs.YtfgajganahpmhaaGreatRR.hideNone
open VS
theorem run14 : isTrue (acallK tabs cfg 400 5 [.int .i64 3, .int .i64 0] [] [] 0) = true := by kernel_rfl
theorem run15 : isTrue (acallK tabs cfg 400 5 [.int .i64 3, .int .i64 1] [] [] 0) = true := by kernel_rfl
theorem run16 : isTrue (acallK tabs cfg 400 5 [.int .i64 3, .int .i64 2] [] [] 0) = true := by kernel_rfl
theorem run17 : isTrue (acallK tabs cfg 400 5 [.int .i64 3, .int .i64 3] [] [] 0) = true := by kernel_rfl
theorem run18 : isTrue (acallK tabs cfg 400 5 [.int .i64 3, .rng 1 .i64 (4) (9223372036854775807)] [] [] 0) = true := by kernel_rfl
theorem run19 : isTrue (acallK tabs cfg 400 5 [.rng 0 .i64 (4) (9223372036854775807), .dead] [] [] 0) = true := by kernel_rfl
end Go.Proofs.YtfgajganahpmhaaGreatRR.hideNone
