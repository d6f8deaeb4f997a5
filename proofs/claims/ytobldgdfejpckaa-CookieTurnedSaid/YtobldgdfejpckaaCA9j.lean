/-
  CookieTurned, from what comes in.
-/
import Derived.Test.YtobldgdfejpckaaCA9h
import Derived.Test.YtobldgdfejpckaaCA9i
set_option linter.all false
set_option linter.unusedVariables false
set_option maxRecDepth 100000
namespace Go.Vc.SA
open Go.Proofs Go.Vc.Sha
theorem c9j {c : CookieV} {at_ turn : Int} {w : World} {K : Bool → World → Prop} (hc : CW c) (ht : (Lit.int .u8 turn).wf = true) (k : ∀ w', St w' [.old w] → K true w') :
    callP P 9 #[CookieV.val c, .int .i64 at_, .int .u8 turn] w Value.bool K := c9 hc (B8_wf ht) k
end Go.Vc.SA
