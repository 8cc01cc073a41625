/-
  The list that the program's tie speaks of. Conditions: none.
-/
import Derived.Test.YtbfolflejhkehaaGreatDoorRows
namespace Go.Proofs.YtbfolflejhkehaaGreatDoor
open Go
abbrev tieL : List (String × DataW Unit) := [("unicode/utf8.acceptRanges", Rows.laid_unicode_utf8_acceptRanges), ("strconv.ErrSyntax", Rows.laid_strconv_ErrSyntax), ("strconv.ErrRange", Rows.laid_strconv_ErrRange), ("internal/strconv.uint64pow10", Rows.laid_internal_strconv_uint64pow10), ("math/bits.deBruijn32tab", Rows.laid_math_bits_deBruijn32tab), ("math/bits.deBruijn64tab", Rows.laid_math_bits_deBruijn64tab), ("rootstock/sha.table", Rows.laid_rootstock_sha_table)]
end Go.Proofs.YtbfolflejhkehaaGreatDoor
