/- The pure elements of the reference's search. -/
import Derived.Test.YtfjmhfmhijhpkaaIs0
namespace Go.Proofs.Ytfjmhfmhijhpkaa
open Go.RowKit FF


end Go.Proofs.Ytfjmhfmhijhpkaa
