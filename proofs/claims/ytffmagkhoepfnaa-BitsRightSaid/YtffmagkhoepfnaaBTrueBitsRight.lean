/- Own text: BTrueBitsRight. -/
import Derived.Test.YtffmagkhoepfnaaMBitsA
import Derived.Test.YtffmagkhoepfnaaBWf
set_option linter.all false
set_option linter.unusedVariables false
set_option linter.unusedSimpArgs false
set_option linter.unnecessarySimpa false
set_option linter.deprecated false
namespace Xb
open Go

theorem bitsRight_true {c : GBits} {k : Ink} {n v o : Int} (hc : wf_GBits c) (hk : wf_Ink k) (hn : inK .i64 n) (hv : inK .u64 v) (ho : inK .u64 o) : law02_BitsRight none c k n v o = some true :=
  bitsRight_all hc.1.2 hk.1.2 hk.2 hv

end Xb
