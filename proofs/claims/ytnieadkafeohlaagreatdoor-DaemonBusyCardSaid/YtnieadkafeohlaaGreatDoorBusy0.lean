/- Runs of DaemonBusy: 0, 11, 4 requests. -/
import Derived.Test.YtnieadkafeohlaaGreatDoorBusyFx
set_option maxRecDepth 100000
namespace Go.Proofs.YtnieadkafeohlaaGreatDoor.daemonBusy
open Go Go.Proofs
theorem run_0_true (n s : Int) (h : (fxB 0 true).Ok (sigB n s)) : X.isT (X.runV (T (sigB n s) (fxB 0 true) h) N1 100000 5 [.isym .u8 0, .isym .u8 1]) = true := by kernel_rfl
theorem run_0_false (n s : Int) (h : (fxB 0 false).Ok (sigB n s)) : X.isT (X.runV (T (sigB n s) (fxB 0 false) h) N1 100000 5 [.isym .u8 0, .isym .u8 1]) = true := by kernel_rfl
theorem run_11_true (n s : Int) (h : (fxB 11 true).Ok (sigB n s)) : X.isT (X.runV (T (sigB n s) (fxB 11 true) h) N1 100000 5 [.isym .u8 0, .isym .u8 1]) = true := by kernel_rfl
theorem run_11_false (n s : Int) (h : (fxB 11 false).Ok (sigB n s)) : X.isT (X.runV (T (sigB n s) (fxB 11 false) h) N1 100000 5 [.isym .u8 0, .isym .u8 1]) = true := by kernel_rfl
theorem run_4_true (n s : Int) (h : (fxB 4 true).Ok (sigB n s)) : X.isT (X.runV (T (sigB n s) (fxB 4 true) h) N1 100000 5 [.isym .u8 0, .isym .u8 1]) = true := by kernel_rfl
theorem run_4_false (n s : Int) (h : (fxB 4 false).Ok (sigB n s)) : X.isT (X.runV (T (sigB n s) (fxB 4 false) h) N1 100000 5 [.isym .u8 0, .isym .u8 1]) = true := by kernel_rfl
end Go.Proofs.YtnieadkafeohlaaGreatDoor.daemonBusy
