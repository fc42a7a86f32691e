/- The walks of the document's helpers for records: pieces joined, pointers, numbers at a place. -/
import Derived.Test.YtibhbfmljibeaaaDoorRecB
namespace Go.Proofs.YtibhbfmljibeaaaDoor
open Go.RowKit

end Go.Proofs.YtibhbfmljibeaaaDoor
