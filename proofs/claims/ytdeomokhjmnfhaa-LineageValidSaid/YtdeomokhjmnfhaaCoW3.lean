
/- Walks of the council: Primary and its reference. -/
import Derived.Test.YtdeomokhjmnfhaaCoW2
namespace Go.Proofs.Ytdeomokhjmnfhaa
open Go.RowKit




end Go.Proofs.Ytdeomokhjmnfhaa
