/- Runs of DaemonBusy: 1, 10, 5 requests. -/
import Derived.Test.YtnieadkafeohlaaGreatDoorBusyFx
set_option maxRecDepth 100000
namespace Go.Proofs.YtnieadkafeohlaaGreatDoor.daemonBusy
open Go Go.Proofs
theorem run_1_true (n s : Int) (h : (fxB 1 true).Ok (sigB n s)) : X.isT (X.runV (T (sigB n s) (fxB 1 true) h) N1 100000 5 [.isym .u8 0, .isym .u8 1]) = true := by kernel_rfl
theorem run_1_false (n s : Int) (h : (fxB 1 false).Ok (sigB n s)) : X.isT (X.runV (T (sigB n s) (fxB 1 false) h) N1 100000 5 [.isym .u8 0, .isym .u8 1]) = true := by kernel_rfl
theorem run_10_true (n s : Int) (h : (fxB 10 true).Ok (sigB n s)) : X.isT (X.runV (T (sigB n s) (fxB 10 true) h) N1 100000 5 [.isym .u8 0, .isym .u8 1]) = true := by kernel_rfl
theorem run_10_false (n s : Int) (h : (fxB 10 false).Ok (sigB n s)) : X.isT (X.runV (T (sigB n s) (fxB 10 false) h) N1 100000 5 [.isym .u8 0, .isym .u8 1]) = true := by kernel_rfl
theorem run_5_true (n s : Int) (h : (fxB 5 true).Ok (sigB n s)) : X.isT (X.runV (T (sigB n s) (fxB 5 true) h) N1 100000 5 [.isym .u8 0, .isym .u8 1]) = true := by kernel_rfl
theorem run_5_false (n s : Int) (h : (fxB 5 false).Ok (sigB n s)) : X.isT (X.runV (T (sigB n s) (fxB 5 false) h) N1 100000 5 [.isym .u8 0, .isym .u8 1]) = true := by kernel_rfl
end Go.Proofs.YtnieadkafeohlaaGreatDoor.daemonBusy
