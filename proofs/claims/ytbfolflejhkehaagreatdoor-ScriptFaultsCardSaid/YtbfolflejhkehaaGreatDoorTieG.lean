/-
  The listed variables fit. Conditions: none.
-/
import Derived.Test.YtbfolflejhkehaaGreatDoorRows
import Derived.LaidByTextLater
import Derived.SevenTiedAt
import Derived.Test.YtbfolflejhkehaaGreatDoorTieF
namespace Go.Proofs.YtbfolflejhkehaaGreatDoor
open Go
theorem fits1 : Tryz.pinned.checked.prog.listedFits [("unicode/utf8.first", Rows.laid_unicode_utf8_first), ("unicode/utf8.acceptRanges", Rows.laid_unicode_utf8_acceptRanges), ("strconv.ErrSyntax", Rows.laid_strconv_ErrSyntax), ("strconv.ErrRange", Rows.laid_strconv_ErrRange), ("internal/strconv.uint64pow10", Rows.laid_internal_strconv_uint64pow10), ("math/bits.deBruijn32tab", Rows.laid_math_bits_deBruijn32tab), ("math/bits.deBruijn64tab", Rows.laid_math_bits_deBruijn64tab), ("rootstock/sha.table", Rows.laid_rootstock_sha_table), ("strconv.isPrint16", Rows.laid_strconv_isPrint16), ("strconv.isNotPrint16", Rows.laid_strconv_isNotPrint16), ("strconv.isPrint32", Rows.laid_strconv_isPrint32), ("strconv.isNotPrint32", Rows.laid_strconv_isNotPrint32), ("strconv.isGraphic", Rows.laid_strconv_isGraphic)] = true := by
  unfold Program.listedFits
  rw [noOwnUnsafe]
  kernel_rfl
end Go.Proofs.YtbfolflejhkehaaGreatDoor
