/- The walks of the document's answer for package field: sums, products, inverses, quotients, powers, told or refused. -/
import Derived.Test.YtdeoibgedjbeiaaDoorRefG
namespace Go.Proofs.YtdeoibgedjbeiaaDoor
open Go.RowKit

end Go.Proofs.YtdeoibgedjbeiaaDoor
