/- Contracts of the reference's classes of bytes (package cracknelref01). -/
import Derived.Test.YtngamlikhgilhaaDoorAsciiC
namespace Go.Proofs.YtngamlikhgilhaaDoor
open Go.RowKit

end Go.Proofs.YtngamlikhgilhaaDoor
