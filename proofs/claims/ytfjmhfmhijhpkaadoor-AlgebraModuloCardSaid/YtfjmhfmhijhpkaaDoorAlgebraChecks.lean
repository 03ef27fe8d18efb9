/- The law AlgebraChecks answers true at all algebras and elements. -/
import Derived.Test.YtfjmhfmhijhpkaaDoorAw30
import Derived.Test.YtfjmhfmhijhpkaaDoorQo0
namespace Go.Proofs.YtfjmhfmhijhpkaaDoor
open Go.RowKit FF

end Go.Proofs.YtfjmhfmhijhpkaaDoor
