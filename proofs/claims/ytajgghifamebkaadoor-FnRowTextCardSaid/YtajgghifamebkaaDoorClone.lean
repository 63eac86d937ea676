/- the contract of slices.Clone at ints -/
import Derived.Test.YtajgghifamebkaaDoorRes
import Derived.Lib.SliceRun
namespace Go.Proofs.YtajgghifamebkaaDoor
set_option linter.unusedSimpArgs false
set_option linter.unusedVariables false
open Go.RowKit
end Go.Proofs.YtajgghifamebkaaDoor
