
/- Walks of the council's numbers (Faults, Quorum, Weak), of the program and of the reference. -/
import Derived.Test.YtnmhmbfhaiaaoaaRows
import Derived.WalkKit
import Derived.WalkSpells
import Derived.WalkLawsBesides
import Derived.Lib.Hide
import Derived.Test.YtnmhmbfhaiaaoaaNum
namespace Go.Proofs.Ytnmhmbfhaiaaoaa
set_option maxRecDepth 100000
open Go.RowKit






end Go.Proofs.Ytnmhmbfhaiaaoaa
