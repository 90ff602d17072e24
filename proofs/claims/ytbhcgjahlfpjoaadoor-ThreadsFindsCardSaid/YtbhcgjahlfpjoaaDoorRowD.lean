/- What the rows of layer 17 share: the listed tables. -/
import Derived.Test.YtbhcgjahlfpjoaaDoorRowA
import Derived.PinnedBridge
import Derived.Lib.LaidU8
import Derived.Lay
import Derived.LaidOnce
namespace Go.Proofs.YtbhcgjahlfpjoaaDoor
open Go.ChangeShapes Go.WideShapes Go.ChangeAt Go.RowKit Go.Lib
def laidU8 : List (String × DataW Unit) := [("unicode/utf8.acceptRanges", Rows.laid_unicode_utf8_acceptRanges), ("unicode/utf8.first", Rows.laid_unicode_utf8_first)]
end Go.Proofs.YtbhcgjahlfpjoaaDoor
