/- The runs of DaemonNil. -/
import Derived.Test.YtnieadkafeohlaaGreatDoorEnv
set_option maxRecDepth 100000
namespace Go.Proofs.YtnieadkafeohlaaGreatDoor
open Go Go.Proofs
theorem nil_s0 (s : Int) : X.isT (X.runV T N1 100000 7 [.int .i64 s, .sl .any 0 []]) = true := by kernel_rfl
theorem nil_s1 (s : Int) : X.isT (X.runV T N1 100000 7 [.int .i64 s, .sl .any 1 []]) = true := by kernel_rfl
theorem nil_s2 (s : Int) : X.isT (X.runV T N1 100000 7 [.int .i64 s, .sl .any 2 []]) = true := by kernel_rfl
theorem nil_s3 (s : Int) : X.isT (X.runV T N1 100000 7 [.int .i64 s, .sl .any 3 []]) = true := by kernel_rfl
theorem nil_s4 (s : Int) : X.isT (X.runV T N1 100000 7 [.int .i64 s, .sl .any 4 []]) = true := by kernel_rfl
theorem nil_s5 (s : Int) : X.isT (X.runV T N1 100000 7 [.int .i64 s, .sl .any 5 []]) = true := by kernel_rfl
theorem nil_s6 (s : Int) : X.isT (X.runV T N1 100000 7 [.int .i64 s, .sl .any 6 []]) = true := by kernel_rfl
theorem nil_s7 (s : Int) : X.isT (X.runV T N1 100000 7 [.int .i64 s, .sl .any 7 []]) = true := by kernel_rfl
theorem nil_s8 (s : Int) : X.isT (X.runV T N1 100000 7 [.int .i64 s, .sl .any 8 []]) = true := by kernel_rfl
theorem nil_s9 (s : Int) : X.isT (X.runV T N1 100000 7 [.int .i64 s, .sl .any 9 []]) = true := by kernel_rfl
theorem nil_s10 (s : Int) : X.isT (X.runV T N1 100000 7 [.int .i64 s, .sl .any 10 []]) = true := by kernel_rfl
theorem nil_s11 (s : Int) : X.isT (X.runV T N1 100000 7 [.int .i64 s, .sl .any 11 []]) = true := by kernel_rfl
theorem nil_s12 (s : Int) : X.isT (X.runV T N1 100000 7 [.int .i64 s, .sl .any 12 []]) = true := by kernel_rfl
theorem nil_s13 (s : Int) : X.isT (X.runV T N1 100000 7 [.int .i64 s, .sl .any 13 []]) = true := by kernel_rfl
theorem nil_s14 (s : Int) : X.isT (X.runV T N1 100000 7 [.int .i64 s, .sl .any 14 []]) = true := by kernel_rfl
theorem nil_s15 (s : Int) : X.isT (X.runV T N1 100000 7 [.int .i64 s, .sl .any 15 []]) = true := by kernel_rfl
theorem nil_s16 (s : Int) : X.isT (X.runV T N1 100000 7 [.int .i64 s, .sl .any 16 []]) = true := by kernel_rfl
theorem nil_s17 (s : Int) : X.isT (X.runV T N1 100000 7 [.int .i64 s, .sl .any 17 []]) = true := by kernel_rfl
theorem nil_s18 (s : Int) : X.isT (X.runV T N1 100000 7 [.int .i64 s, .sl .any 18 []]) = true := by kernel_rfl
theorem nil_s19 (s : Int) : X.isT (X.runV T N1 100000 7 [.int .i64 s, .sl .any 19 []]) = true := by kernel_rfl
theorem nil_s20 (s : Int) : X.isT (X.runV T N1 100000 7 [.int .i64 s, .sl .any 20 []]) = true := by kernel_rfl
theorem nil_s21 (s : Int) : X.isT (X.runV T N1 100000 7 [.int .i64 s, .sl .any 21 []]) = true := by kernel_rfl
theorem nil_s22 (s : Int) : X.isT (X.runV T N1 100000 7 [.int .i64 s, .sl .any 22 []]) = true := by kernel_rfl
theorem nil_s23 (s : Int) : X.isT (X.runV T N1 100000 7 [.int .i64 s, .sl .any 23 []]) = true := by kernel_rfl
theorem nil_s24 (s : Int) : X.isT (X.runV T N1 100000 7 [.int .i64 s, .sl .any 24 []]) = true := by kernel_rfl
theorem nil_s25 (s : Int) : X.isT (X.runV T N1 100000 7 [.int .i64 s, .sl .any 25 []]) = true := by kernel_rfl
theorem nil_s26 (s : Int) : X.isT (X.runV T N1 100000 7 [.int .i64 s, .sl .any 26 []]) = true := by kernel_rfl
theorem nil_s27 (s : Int) : X.isT (X.runV T N1 100000 7 [.int .i64 s, .sl .any 27 []]) = true := by kernel_rfl
theorem nil_s28 (s : Int) : X.isT (X.runV T N1 100000 7 [.int .i64 s, .sl .any 28 []]) = true := by kernel_rfl
theorem nil_s29 (s : Int) : X.isT (X.runV T N1 100000 7 [.int .i64 s, .sl .any 29 []]) = true := by kernel_rfl
theorem nil_s30 (s : Int) : X.isT (X.runV T N1 100000 7 [.int .i64 s, .sl .any 30 []]) = true := by kernel_rfl
theorem nil_s31 (s : Int) : X.isT (X.runV T N1 100000 7 [.int .i64 s, .sl .any 31 []]) = true := by kernel_rfl
theorem nil_s32 (s : Int) : X.isT (X.runV T N1 100000 7 [.int .i64 s, .sl .any 32 []]) = true := by kernel_rfl
theorem nil_s33 (s : Int) : X.isT (X.runV T N1 100000 7 [.int .i64 s, .sl .any 33 []]) = true := by kernel_rfl
theorem nil_s34 (s : Int) : X.isT (X.runV T N1 100000 7 [.int .i64 s, .sl .any 34 []]) = true := by kernel_rfl
theorem nil_s35 (s : Int) : X.isT (X.runV T N1 100000 7 [.int .i64 s, .sl .any 35 []]) = true := by kernel_rfl
theorem nil_s36 (s : Int) : X.isT (X.runV T N1 100000 7 [.int .i64 s, .sl .any 36 []]) = true := by kernel_rfl
theorem nil_s37 (s : Int) : X.isT (X.runV T N1 100000 7 [.int .i64 s, .sl .any 37 []]) = true := by kernel_rfl
theorem nil_s38 (s : Int) : X.isT (X.runV T N1 100000 7 [.int .i64 s, .sl .any 38 []]) = true := by kernel_rfl
theorem nil_s39 (s : Int) : X.isT (X.runV T N1 100000 7 [.int .i64 s, .sl .any 39 []]) = true := by kernel_rfl
theorem nil_s40 (s : Int) : X.isT (X.runV T N1 100000 7 [.int .i64 s, .sl .any 40 []]) = true := by kernel_rfl
theorem nil_s41 (s : Int) : X.isT (X.runV T N1 100000 7 [.int .i64 s, .sl .any 41 []]) = true := by kernel_rfl
theorem nil_s42 (s : Int) : X.isT (X.runV T N1 100000 7 [.int .i64 s, .sl .any 42 []]) = true := by kernel_rfl
theorem nil_s43 (s : Int) : X.isT (X.runV T N1 100000 7 [.int .i64 s, .sl .any 43 []]) = true := by kernel_rfl
theorem nil_s44 (s : Int) : X.isT (X.runV T N1 100000 7 [.int .i64 s, .sl .any 44 []]) = true := by kernel_rfl
theorem nil_s45 (s : Int) : X.isT (X.runV T N1 100000 7 [.int .i64 s, .sl .any 45 []]) = true := by kernel_rfl
theorem nil_s46 (s : Int) : X.isT (X.runV T N1 100000 7 [.int .i64 s, .sl .any 46 []]) = true := by kernel_rfl
theorem nil_s47 (s : Int) : X.isT (X.runV T N1 100000 7 [.int .i64 s, .sl .any 47 []]) = true := by kernel_rfl
theorem nil_s48 (s : Int) : X.isT (X.runV T N1 100000 7 [.int .i64 s, .sl .any 48 []]) = true := by kernel_rfl
theorem nil_s49 (s : Int) : X.isT (X.runV T N1 100000 7 [.int .i64 s, .sl .any 49 []]) = true := by kernel_rfl
theorem nil_s50 (s : Int) : X.isT (X.runV T N1 100000 7 [.int .i64 s, .sl .any 50 []]) = true := by kernel_rfl
theorem nil_s51 (s : Int) : X.isT (X.runV T N1 100000 7 [.int .i64 s, .sl .any 51 []]) = true := by kernel_rfl
theorem nil_s52 (s : Int) : X.isT (X.runV T N1 100000 7 [.int .i64 s, .sl .any 52 []]) = true := by kernel_rfl
theorem nil_s53 (s : Int) : X.isT (X.runV T N1 100000 7 [.int .i64 s, .sl .any 53 []]) = true := by kernel_rfl
theorem nil_s54 (s : Int) : X.isT (X.runV T N1 100000 7 [.int .i64 s, .sl .any 54 []]) = true := by kernel_rfl
theorem nil_s55 (s : Int) : X.isT (X.runV T N1 100000 7 [.int .i64 s, .sl .any 55 []]) = true := by kernel_rfl
theorem nil_s56 (s : Int) : X.isT (X.runV T N1 100000 7 [.int .i64 s, .sl .any 56 []]) = true := by kernel_rfl
theorem nil_s57 (s : Int) : X.isT (X.runV T N1 100000 7 [.int .i64 s, .sl .any 57 []]) = true := by kernel_rfl
theorem nil_s58 (s : Int) : X.isT (X.runV T N1 100000 7 [.int .i64 s, .sl .any 58 []]) = true := by kernel_rfl
theorem nil_s59 (s : Int) : X.isT (X.runV T N1 100000 7 [.int .i64 s, .sl .any 59 []]) = true := by kernel_rfl
theorem nil_s60 (s : Int) : X.isT (X.runV T N1 100000 7 [.int .i64 s, .sl .any 60 []]) = true := by kernel_rfl
theorem nil_big (s : Int) (m : Nat) : X.isT (X.runV T N1 100000 7 [.int .i64 s, .sl .any (m + 61) []]) = true := by kernel_rfl
theorem nil_nil (s : Int) : X.isT (X.runV T N1 100000 7 [.int .i64 s, .sl .nil 0 []]) = true := by kernel_rfl
theorem nil_run (s : Int) (n : Nat) : X.isT (X.runV T N1 100000 7 [.int .i64 s, .sl .any n []]) = true := by
  match n with
  | 0 => exact nil_s0 s
  | 1 => exact nil_s1 s
  | 2 => exact nil_s2 s
  | 3 => exact nil_s3 s
  | 4 => exact nil_s4 s
  | 5 => exact nil_s5 s
  | 6 => exact nil_s6 s
  | 7 => exact nil_s7 s
  | 8 => exact nil_s8 s
  | 9 => exact nil_s9 s
  | 10 => exact nil_s10 s
  | 11 => exact nil_s11 s
  | 12 => exact nil_s12 s
  | 13 => exact nil_s13 s
  | 14 => exact nil_s14 s
  | 15 => exact nil_s15 s
  | 16 => exact nil_s16 s
  | 17 => exact nil_s17 s
  | 18 => exact nil_s18 s
  | 19 => exact nil_s19 s
  | 20 => exact nil_s20 s
  | 21 => exact nil_s21 s
  | 22 => exact nil_s22 s
  | 23 => exact nil_s23 s
  | 24 => exact nil_s24 s
  | 25 => exact nil_s25 s
  | 26 => exact nil_s26 s
  | 27 => exact nil_s27 s
  | 28 => exact nil_s28 s
  | 29 => exact nil_s29 s
  | 30 => exact nil_s30 s
  | 31 => exact nil_s31 s
  | 32 => exact nil_s32 s
  | 33 => exact nil_s33 s
  | 34 => exact nil_s34 s
  | 35 => exact nil_s35 s
  | 36 => exact nil_s36 s
  | 37 => exact nil_s37 s
  | 38 => exact nil_s38 s
  | 39 => exact nil_s39 s
  | 40 => exact nil_s40 s
  | 41 => exact nil_s41 s
  | 42 => exact nil_s42 s
  | 43 => exact nil_s43 s
  | 44 => exact nil_s44 s
  | 45 => exact nil_s45 s
  | 46 => exact nil_s46 s
  | 47 => exact nil_s47 s
  | 48 => exact nil_s48 s
  | 49 => exact nil_s49 s
  | 50 => exact nil_s50 s
  | 51 => exact nil_s51 s
  | 52 => exact nil_s52 s
  | 53 => exact nil_s53 s
  | 54 => exact nil_s54 s
  | 55 => exact nil_s55 s
  | 56 => exact nil_s56 s
  | 57 => exact nil_s57 s
  | 58 => exact nil_s58 s
  | 59 => exact nil_s59 s
  | 60 => exact nil_s60 s
  | m + 61 => exact nil_big s m
theorem daemonNil_run (k : Int) (_ : (Lit.int .i64 k).wf = true) {a : X.AV} (h : X.LenOnly a) : X.isT (X.runV T N1 100000 7 [.int .i64 k, a]) = true := by
  rcases h with rfl | ⟨n, rfl⟩
  · exact nil_nil k
  · exact nil_run k n
end Go.Proofs.YtnieadkafeohlaaGreatDoor
