/- The table of the functions. -/
import Derived.Test.YtokhjbkkpbceeaaGreatDoorFa
import Derived.Test.YtokhjbkkpbceeaaGreatDoorFb
import Derived.Test.YtokhjbkkpbceeaaGreatDoorFc
import Derived.Test.YtokhjbkkpbceeaaGreatDoorFd
namespace Go.Em
open Go
def tab (f : FuncId) : Option FDef := bif Nat.blt f 57 then tr0.find f else bif Nat.blt f 120 then tr1.find f else bif Nat.blt f 190 then tr2.find f else tr3.find f
theorem tab_ok : ∀ f d, tab f = some d → chkF Go.Proofs.Tryz.prog f d = true := by
  intro f d h
  unfold tab at h
  cases h0 : Nat.blt f 57 <;> simp only [h0, cond_true, cond_false] at h
  case true => exact chkTr_spec chk0 h
  cases h1 : Nat.blt f 120 <;> simp only [h1, cond_true, cond_false] at h
  case true => exact chkTr_spec chk1 h
  cases h2 : Nat.blt f 190 <;> simp only [h2, cond_true, cond_false] at h
  case true => exact chkTr_spec chk2 h
  exact chkTr_spec chk3 h
end Go.Em
