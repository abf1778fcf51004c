/- Walks of the laws' helpers dup and same. -/
import Derived.Test.YtlandlgjhnnaiaaSumW5
import Derived.Test.YtlandlgjhnnaiaaOwn
set_option linter.unusedVariables false
set_option linter.unusedSimpArgs false
namespace Go.Proofs.Ytlandlgjhnnaiaa
open Go.RowKit SumMath
theorem toByteArray_ext {a b : ByteArray} (h : a.data.toList = b.data.toList) : a = b := by
  cases a; cases b; congr 1; exact Array.toList_inj.1 h
end Go.Proofs.Ytlandlgjhnnaiaa
