/- The chapter's example is answered with true. -/
import Derived.Test.YtlbhbjaimcinbaaBCode
namespace Go.Proofs.Ytlbhbjaimcinbaa.AI
open Go

theorem awake_ac : ac tbl 200 11 [] [] = some (.bool true, []) := by kernel_rfl
theorem awake0 : AC tbl 11 [] [] = some (.bool true, []) := ac_AC tbl 200 _ _ _ _ awake_ac
theorem awake_any (H : Heap) : AC tbl 11 [] H = some (.bool true, H) := AC_iso (F := F11) rfl (by decide) rfl rfl rfl awake0 H

end Go.Proofs.Ytlbhbjaimcinbaa.AI
