/- Own text: SShort. -/
import Derived.Test.YtpehlandaemcmaaGreatSFeedA
set_option linter.all false
set_option linter.unusedVariables false
set_option linter.unusedSimpArgs false
set_option linter.unnecessarySimpa false
set_option linter.deprecated false
namespace Xb
open Go

theorem bqq (x y : Bool) (h : x = true ↔ y = true) : bq .eql x y = true := by
  cases x <;> cases y <;> simp [bq] at h ⊢

theorem short_of {f : Feed} (h : ref20_Short f = true) : short f := by
  unfold ref20_Short at h
  simp only [Bool.and_eq_true, cm_leq, decide_eq_true_eq] at h
  unfold short
  omega

end Xb
