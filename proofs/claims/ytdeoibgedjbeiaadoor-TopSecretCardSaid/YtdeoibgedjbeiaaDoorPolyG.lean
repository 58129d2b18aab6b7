/- The walk of the document's Places. -/
import Derived.Test.YtdeoibgedjbeiaaDoorPolyF
namespace Go.Proofs.YtdeoibgedjbeiaaDoor
open Go.RowKit

end Go.Proofs.YtdeoibgedjbeiaaDoor
