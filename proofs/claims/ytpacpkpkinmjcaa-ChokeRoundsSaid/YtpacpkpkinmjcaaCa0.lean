/- choke, part a0. -/
import Derived.Test.YtpacpkpkinmjcaaEngY
import Derived.Test.YtpacpkpkinmjcaaEngM
import Derived.Test.YtpacpkpkinmjcaaEngL
import Derived.Test.YtpacpkpkinmjcaaEngO
import Derived.Test.YtpacpkpkinmjcaaEngQ
import Derived.Test.YtpacpkpkinmjcaaEngR
import Derived.Test.YtpacpkpkinmjcaaEngS
import Derived.Test.YtpacpkpkinmjcaaEngT
import Derived.Test.YtpacpkpkinmjcaaEngW
import Derived.Test.YtpacpkpkinmjcaaEngZ
import Derived.Test.YtpacpkpkinmjcaaEngX
import Derived.Test.YtpacpkpkinmjcaaTab
set_option linter.unusedVariables false
set_option linter.unusedSimpArgs false
namespace Go.Proofs.Ytpacpkpkinmjcaa
open Go Go.SL
abbrev ptr (b : Nat) : Value := .pointer (some ⟨b, 0, none⟩)
end Go.Proofs.Ytpacpkpkinmjcaa
