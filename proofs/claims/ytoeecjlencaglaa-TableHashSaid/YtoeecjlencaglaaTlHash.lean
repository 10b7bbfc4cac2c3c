/- TableHash as its row asks it. -/
import Derived.Test.YtoeecjlencaglaaTl0
import Derived.Test.YtoeecjlencaglaaPx8
import Derived.RowKit
namespace Go.Proofs.Ytoeecjlencaglaa
open Go.Px
theorem TableHash_row (W : World) (key : ByteArray) (slots : Int) (hk : key.size ≤ 140737488351232) (hs : (Lit.int .i64 slots).wf = true) : Runs Try.prog 3 #[.string key, .int .i64 slots] (imW W) [] fun v _ _ => v = .bool true := by
  have : -9223372036854775808 ≤ slots ∧ slots ≤ 9223372036854775807 := by simpa [Lit.wf, IntKind.min, IntKind.max, IntKind.signed, IntKind.bits] using hs
  exact TableHash_runs key slots this.2 hk _ _
end Go.Proofs.Ytoeecjlencaglaa
