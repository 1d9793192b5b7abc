/- Rows of texts, once more. -/
import Derived.Test.YtehpapoboeejkaaDoorStr
namespace Go.Proofs.YtehpapoboeejkaaDoor
open Go.RowKit
theorem strV_map (l : List (List UInt8)) : strV l = (l.map strB).map Value.string := by simp [strV]
end Go.Proofs.YtehpapoboeejkaaDoor
