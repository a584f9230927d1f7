/-
  Parts of a proof: CRunO.
-/
import Derived.Test.YtjmiilneennjaaaPart19
import Derived.Test.YtjmiilneennjaaaPart12
import Derived.Test.YtjmiilneennjaaaPart36
namespace Go.Proofs.Ytjmiilneennjaaa
open Go.RowKit
set_option maxHeartbeats 2000000
set_option maxRecDepth 100000
set_option linter.unusedVariables false

end Go.Proofs.Ytjmiilneennjaaa
