/- A delta on a zone, by the law, whole; what goes and what comes between two zones. -/
import Derived.Test.YtdajglfbbcbgpaaDoorYa4
namespace Go.Proofs.YtdajglfbbcbgpaaDoor
open Go.Px
set_option linter.unusedVariables false

theorem SRes.of {S : SH} {v : Value} {T : SH} {r s : Option Int × List Rc} (h : SRes S v T r) (e : r = s) : SRes S v T s := e ▸ h
end Go.Proofs.YtdajglfbbcbgpaaDoor
