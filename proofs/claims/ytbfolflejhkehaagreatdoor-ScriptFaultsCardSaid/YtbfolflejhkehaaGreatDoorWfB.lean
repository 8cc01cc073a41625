/-
  The listed names, each once. Conditions: none.
-/
import Derived.KernelRfl
namespace Go.Sc
theorem names_once : ["unicode/utf8.first", "unicode/utf8.acceptRanges", "strconv.ErrSyntax", "strconv.ErrRange", "internal/strconv.uint64pow10", "math/bits.deBruijn32tab", "math/bits.deBruijn64tab", "rootstock/sha.table", "strconv.isPrint16", "strconv.isNotPrint16", "strconv.isPrint32", "strconv.isNotPrint32", "strconv.isGraphic"].Nodup := by simp
end Go.Sc
