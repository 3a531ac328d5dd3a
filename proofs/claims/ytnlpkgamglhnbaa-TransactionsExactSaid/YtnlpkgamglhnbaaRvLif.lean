import Derived.Test.YtnlpkgamglhnbaaRvLi0
set_option linter.unusedVariables false
set_option linter.unusedSimpArgs false
namespace Rv
open Go Go.RowKit Go.Proofs
theorem fol : Try.prog.follows .mixedOrders = true := by decide +kernel
theorem un3 : Try.prog.underlying 3 = some (.int .i64) := Try.underlying3
end Rv
