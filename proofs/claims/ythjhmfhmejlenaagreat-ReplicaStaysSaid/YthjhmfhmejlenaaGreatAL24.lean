/-
  AN ABSTRACT LOGIC OVER THE MODEL, part 24: calls that name nothing, reckoned once; runs that are cut in parts.
-/
import Derived.Test.YthjhmfhmejlenaaGreatAL23
set_option linter.unusedSectionVars false
set_option linter.unusedVariables false
set_option linter.unusedSimpArgs false
section
namespace Go.bO
open Go.RowKit
end Go.bO
end
section
namespace Go.bO
open Go.RowKit
end Go.bO
end
