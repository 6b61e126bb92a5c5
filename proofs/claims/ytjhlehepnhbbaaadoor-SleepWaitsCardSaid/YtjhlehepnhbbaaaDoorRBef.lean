/-
  Before and Sync of the document's Order.
-/
import Derived.Test.YtjhlehepnhbbaaaDoorKnow
import Derived.Test.YtjhlehepnhbbaaaDoorROf
set_option linter.unusedSimpArgs false
set_option linter.unusedVariables false
namespace Go.Proofs.YtjhlehepnhbbaaaDoor
open Go.ChangeShapes Go.WideShapes Go.ChangeAt Go.RowKit Go.Deep

end Go.Proofs.YtjhlehepnhbbaaaDoor
