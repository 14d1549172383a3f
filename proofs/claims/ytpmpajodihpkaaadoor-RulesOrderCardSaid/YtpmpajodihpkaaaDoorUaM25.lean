/- The library of this claim and its walks, part 25, joined out of smaller texts. No statement stands in it. -/
import Derived.Test.YtpmpajodihpkaaaDoorUaM22
import Derived.Test.YtpmpajodihpkaaaDoorUaM24
import Derived.Lib.FieldsP
/- The pieces between blanks, rune by rune, are those byte by byte. A library of this claim's own: no statement stands in it. -/
namespace Go.Ua
open Go Go.Proofs Go.Lib
set_option linter.unusedVariables false
set_option linter.unusedSimpArgs false

end Go.Ua

/- The reference's lists, read and joined. -/
namespace Go.Proofs.YtpmpajodihpkaaaDoor
open Go Go.Proofs Go.Ua Go.Extern
set_option linter.unusedVariables false
set_option linter.unusedSimpArgs false

end Go.Proofs.YtpmpajodihpkaaaDoor

