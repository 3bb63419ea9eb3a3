/- The test of a field by the document over this translation.
   Conditions: texts of at most 1000000 bytes. -/
import Derived.Test.YteecmcphbehfgaaDoorF7
namespace Go.Proofs.YteecmcphbehfgaaDoor
open Go.RowKit Go.Lib

end Go.Proofs.YteecmcphbehfgaaDoor
