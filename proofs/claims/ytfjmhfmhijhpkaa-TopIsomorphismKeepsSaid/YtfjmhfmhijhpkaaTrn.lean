/- Products in both orders in the reference. -/
import Derived.Test.YtfjmhfmhijhpkaaIsq
import Derived.Test.YtfjmhfmhijhpkaaRin
namespace Go.Proofs.Ytfjmhfmhijhpkaa
open Go.RowKit FF

end Go.Proofs.Ytfjmhfmhijhpkaa
