/- Contract of raftsmanref09.May. -/
import Derived.Test.YtholhmdmpomabaaPartF
namespace Go.Proofs.Ytholhmdmpomabaa
open Go.RowKit Pt
set_option linter.unusedVariables false

end Go.Proofs.Ytholhmdmpomabaa
