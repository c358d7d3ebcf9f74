/- What the texts of this seat stand on: the given rows and the words for memory. Conditions: none. -/
import Derived.Test.YtbjknkgefpeohaaDoorRows
import Derived.Test.YtbjknkgefpeohaaDoorMem
namespace Go.Proofs.YtbjknkgefpeohaaDoor
end Go.Proofs.YtbjknkgefpeohaaDoor
