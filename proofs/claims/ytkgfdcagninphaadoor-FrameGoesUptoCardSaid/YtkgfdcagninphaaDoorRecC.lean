/- The walks of the document's helpers for records: pieces joined, pointers, numbers at a place. -/
import Derived.Test.YtkgfdcagninphaaDoorRecB
namespace Go.Proofs.YtkgfdcagninphaaDoor
open Go.RowKit

end Go.Proofs.YtkgfdcagninphaaDoor
