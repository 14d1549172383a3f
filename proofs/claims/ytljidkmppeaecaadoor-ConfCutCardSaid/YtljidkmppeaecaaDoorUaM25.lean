/- The library of this claim and its walks, part 25, joined out of smaller texts. No statement stands in it. -/
import Derived.Test.YtljidkmppeaecaaDoorUaM22
import Derived.Test.YtljidkmppeaecaaDoorUaM24
import Derived.Laws.Bits64
import Derived.Laws.Bits64b
/- Hexadecimal digits, as the library prints them. -/
namespace Go.Proofs.YtljidkmppeaecaaDoor
open Go Go.Proofs Go.Ua Go.Extern
set_option linter.unusedVariables false
set_option linter.unusedSimpArgs false

section
variable {F : Fam} (hF : F = Fam.real)
include hF
end

end Go.Proofs.YtljidkmppeaecaaDoor

/- Sixteen digits. -/
namespace Go.Proofs.YtljidkmppeaecaaDoor
open Go Go.Proofs Go.Ua Go.Extern
set_option linter.unusedVariables false
set_option linter.unusedSimpArgs false

end Go.Proofs.YtljidkmppeaecaaDoor

/- Back from sixteen digits. -/
namespace Go.Proofs.YtljidkmppeaecaaDoor
open Go Go.Proofs Go.Ua Go.Extern
set_option linter.unusedVariables false
set_option linter.unusedSimpArgs false

end Go.Proofs.YtljidkmppeaecaaDoor

/- Digits in order: plain laws. -/
namespace Go.Proofs.YtljidkmppeaecaaDoor
open Go Go.Proofs Go.Ua Go.Extern
set_option linter.unusedVariables false
set_option linter.unusedSimpArgs false

def before (a b : List UInt8) : Prop := a.length < b.length ∨ (a.length = b.length ∧ a < b)

end Go.Proofs.YtljidkmppeaecaaDoor

/- Numbers and their digits: plain laws; the reference's numbers. -/
namespace Go.Proofs.YtljidkmppeaecaaDoor
open Go Go.Proofs Go.Ua Go.Extern
set_option linter.unusedVariables false
set_option linter.unusedSimpArgs false

end Go.Proofs.YtljidkmppeaecaaDoor

/- The reference's digits and numbers. -/
namespace Go.Proofs.YtljidkmppeaecaaDoor
open Go Go.Proofs Go.Ua Go.Extern
set_option linter.unusedVariables false
set_option linter.unusedSimpArgs false
set_option maxRecDepth 10000

end Go.Proofs.YtljidkmppeaecaaDoor

