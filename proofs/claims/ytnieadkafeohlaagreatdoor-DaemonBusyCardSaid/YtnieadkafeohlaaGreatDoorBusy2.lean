/- Runs of DaemonBusy: 2, 9, 6 requests. -/
import Derived.Test.YtnieadkafeohlaaGreatDoorBusyFx
set_option maxRecDepth 100000
namespace Go.Proofs.YtnieadkafeohlaaGreatDoor.daemonBusy
open Go Go.Proofs
theorem run_2_true (n s : Int) (h : (fxB 2 true).Ok (sigB n s)) : X.isT (X.runV (T (sigB n s) (fxB 2 true) h) N1 100000 5 [.isym .u8 0, .isym .u8 1]) = true := by kernel_rfl
theorem run_2_false (n s : Int) (h : (fxB 2 false).Ok (sigB n s)) : X.isT (X.runV (T (sigB n s) (fxB 2 false) h) N1 100000 5 [.isym .u8 0, .isym .u8 1]) = true := by kernel_rfl
theorem run_9_true (n s : Int) (h : (fxB 9 true).Ok (sigB n s)) : X.isT (X.runV (T (sigB n s) (fxB 9 true) h) N1 100000 5 [.isym .u8 0, .isym .u8 1]) = true := by kernel_rfl
theorem run_9_false (n s : Int) (h : (fxB 9 false).Ok (sigB n s)) : X.isT (X.runV (T (sigB n s) (fxB 9 false) h) N1 100000 5 [.isym .u8 0, .isym .u8 1]) = true := by kernel_rfl
theorem run_6_true (n s : Int) (h : (fxB 6 true).Ok (sigB n s)) : X.isT (X.runV (T (sigB n s) (fxB 6 true) h) N1 100000 5 [.isym .u8 0, .isym .u8 1]) = true := by kernel_rfl
theorem run_6_false (n s : Int) (h : (fxB 6 false).Ok (sigB n s)) : X.isT (X.runV (T (sigB n s) (fxB 6 false) h) N1 100000 5 [.isym .u8 0, .isym .u8 1]) = true := by kernel_rfl
end Go.Proofs.YtnieadkafeohlaaGreatDoor.daemonBusy
