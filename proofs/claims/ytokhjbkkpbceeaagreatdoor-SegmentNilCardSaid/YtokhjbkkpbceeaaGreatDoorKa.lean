/- The pure calls of known(), evaluated by the kernel. -/
import Derived.Test.YtokhjbkkpbceeaaGreatDoorGa
import Derived.Test.YtokhjbkkpbceeaaGreatDoorFt
import Derived.Test.YtokhjbkkpbceeaaGreatDoorHa
import Derived.Test.YtokhjbkkpbceeaaGreatDoorSd
namespace Go.Em
open Go
theorem memoK_chk : chkMF tab spec0 mt 100000 40 [] memoK = true := by kernel_rfl
set_option maxRecDepth 100000 in
theorem memoK_ok : MemoOK Go.Proofs.Tryz.prog (addM [] memoK) :=
  chkM_ok tab_ok spec0_ok mt_ok prog_mixed memoK [] (fun f args v h => by cases h) (by rw [← chkMF_eq]; exact memoK_chk)
end Go.Em
