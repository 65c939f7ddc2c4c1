
/- Walks of Text of the program and of the reference. -/
import Derived.Test.YtelmpoaioccpoaaCoW
import Derived.Test.YtelmpoaioccpoaaTxP
import Derived.Test.YtelmpoaioccpoaaPkR
import Derived.Test.YtelmpoaioccpoaaRdW
import Derived.Test.YtelmpoaioccpoaaQuiet
namespace Go.Proofs.Ytelmpoaioccpoaa
set_option maxRecDepth 100000
open Go.RowKit
set_option linter.unusedVariables false



end Go.Proofs.Ytelmpoaioccpoaa

/- Walks of Text of the reference. -/
namespace Go.Proofs.Ytelmpoaioccpoaa
set_option maxRecDepth 100000
open Go.RowKit
set_option linter.unusedVariables false



/-- What Text tells. -/
def textS (e : Int) (l : List Int) : ByteArray := if rightB e l = true then ⟨(textP e l).toArray⟩ else ⟨#[]⟩
def textE (e : Int) (l : List Int) : Int := if rightB e l = true then 0 else 1
end Go.Proofs.Ytelmpoaioccpoaa
