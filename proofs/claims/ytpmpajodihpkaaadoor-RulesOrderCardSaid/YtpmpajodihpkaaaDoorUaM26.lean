/- The library of this claim and its walks, part 26, joined out of smaller texts. No statement stands in it. -/
import Derived.Test.YtpmpajodihpkaaaDoorUaM23
import Derived.Test.YtpmpajodihpkaaaDoorUaM25
import Derived.Laws.Bits64
import Derived.Laws.Bits64b
/- Hexadecimal digits, as the library prints them. -/
namespace Go.Proofs.YtpmpajodihpkaaaDoor
open Go Go.Proofs Go.Ua Go.Extern
set_option linter.unusedVariables false
set_option linter.unusedSimpArgs false

section
variable {F : Fam} (hF : F = Fam.real)
include hF
end

end Go.Proofs.YtpmpajodihpkaaaDoor

/- Sixteen digits. -/
namespace Go.Proofs.YtpmpajodihpkaaaDoor
open Go Go.Proofs Go.Ua Go.Extern
set_option linter.unusedVariables false
set_option linter.unusedSimpArgs false

end Go.Proofs.YtpmpajodihpkaaaDoor

/- Back from sixteen digits. -/
namespace Go.Proofs.YtpmpajodihpkaaaDoor
open Go Go.Proofs Go.Ua Go.Extern
set_option linter.unusedVariables false
set_option linter.unusedSimpArgs false

end Go.Proofs.YtpmpajodihpkaaaDoor

/- Digits in order: plain laws. -/
namespace Go.Proofs.YtpmpajodihpkaaaDoor
open Go Go.Proofs Go.Ua Go.Extern
set_option linter.unusedVariables false
set_option linter.unusedSimpArgs false

def before (a b : List UInt8) : Prop := a.length < b.length ∨ (a.length = b.length ∧ a < b)

end Go.Proofs.YtpmpajodihpkaaaDoor

/- Numbers and their digits: plain laws; the reference's numbers. -/
namespace Go.Proofs.YtpmpajodihpkaaaDoor
open Go Go.Proofs Go.Ua Go.Extern
set_option linter.unusedVariables false
set_option linter.unusedSimpArgs false

end Go.Proofs.YtpmpajodihpkaaaDoor

/- The reference's digits and numbers. -/
namespace Go.Proofs.YtpmpajodihpkaaaDoor
open Go Go.Proofs Go.Ua Go.Extern
set_option linter.unusedVariables false
set_option linter.unusedSimpArgs false

end Go.Proofs.YtpmpajodihpkaaaDoor

