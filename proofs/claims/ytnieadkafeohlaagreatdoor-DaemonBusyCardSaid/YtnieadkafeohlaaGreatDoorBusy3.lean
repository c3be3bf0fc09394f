/- Runs of DaemonBusy: 3, 8, 7 requests. -/
import Derived.Test.YtnieadkafeohlaaGreatDoorBusyFx
set_option maxRecDepth 100000
namespace Go.Proofs.YtnieadkafeohlaaGreatDoor.daemonBusy
open Go Go.Proofs
theorem run_3_true (n s : Int) (h : (fxB 3 true).Ok (sigB n s)) : X.isT (X.runV (T (sigB n s) (fxB 3 true) h) N1 100000 5 [.isym .u8 0, .isym .u8 1]) = true := by kernel_rfl
theorem run_3_false (n s : Int) (h : (fxB 3 false).Ok (sigB n s)) : X.isT (X.runV (T (sigB n s) (fxB 3 false) h) N1 100000 5 [.isym .u8 0, .isym .u8 1]) = true := by kernel_rfl
theorem run_8_true (n s : Int) (h : (fxB 8 true).Ok (sigB n s)) : X.isT (X.runV (T (sigB n s) (fxB 8 true) h) N1 100000 5 [.isym .u8 0, .isym .u8 1]) = true := by kernel_rfl
theorem run_8_false (n s : Int) (h : (fxB 8 false).Ok (sigB n s)) : X.isT (X.runV (T (sigB n s) (fxB 8 false) h) N1 100000 5 [.isym .u8 0, .isym .u8 1]) = true := by kernel_rfl
theorem run_7_true (n s : Int) (h : (fxB 7 true).Ok (sigB n s)) : X.isT (X.runV (T (sigB n s) (fxB 7 true) h) N1 100000 5 [.isym .u8 0, .isym .u8 1]) = true := by kernel_rfl
theorem run_7_false (n s : Int) (h : (fxB 7 false).Ok (sigB n s)) : X.isT (X.runV (T (sigB n s) (fxB 7 false) h) N1 100000 5 [.isym .u8 0, .isym .u8 1]) = true := by kernel_rfl
end Go.Proofs.YtnieadkafeohlaaGreatDoor.daemonBusy
