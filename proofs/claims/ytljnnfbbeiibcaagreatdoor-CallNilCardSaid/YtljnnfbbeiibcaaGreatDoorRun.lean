/- The closed runs of this law. -/
import Derived.Test.YtljnnfbbeiibcaaGreatDoorNat
import Derived.Test.YtljnnfbbeiibcaaGreatDoorRec
import Derived.Test.YtljnnfbbeiibcaaGreatDoorGoxClosed
import Derived.KernelRfl
set_option maxRecDepth 100000
namespace Go.Proofs.YtljnnfbbeiibcaaGreatDoor
open Go Go.Proofs

/-- No variable of the package is read. -/
def ng : X.Glob := fun _ => none
theorem ng_flat : X.globFlat ng := fun g cs h => by simp [ng] at h
def dR : X.RecD := ⟨142, 193, 12, 10, 2, 3, 6⟩
noncomputable def T (f : Nat) : Option X.AFn := bif Nat.beq f 100 then X.cRec Tryz.prog ng dR f else X.cFn Tryz.prog ng f
theorem T_ok : ∀ f a, T f = some a → X.FnOk Tryz.prog ng f a := by
  intro f a h
  unfold T at h
  cases hb : Nat.beq f 100 with
  | true => rw [hb] at h; exact .inr ⟨dR, h, Tryz.recG⟩
  | false => rw [hb] at h; exact .inl h
def N0 : X.Nat1 := X.natN Tryz.nats
theorem env0 : X.Env ng Tryz.prog T N0 := X.env_of T_ok Tryz.nats_ok
theorem three_run : X.runV T N0 100000 5 [] = some (.bool true) := by kernel_rfl
def N1 : X.Nat1 := X.natC N0 [(5, .bool true)]
theorem env1 : X.Env ng Tryz.prog T N1 := X.env_const ng_flat env0 (by
  intro x hx
  simp only [List.mem_cons, List.not_mem_nil, or_false] at hx
  subst hx
  exact ⟨rfl, X.runV_acalls env0 three_run⟩)
theorem run_big (n : Nat) (path : List UInt8) : X.runV T N1 100000 3 [.int .u8 (.ofNat (n + 14)), .str path] = some (.bool true) := by kernel_rfl
theorem run_0 (path : List UInt8) : X.runV T N1 100000 3 [.int .u8 0, .str path] = some (.bool true) := by kernel_rfl
theorem run_1n : X.runV T N1 100000 3 [.int .u8 1, .str []] = some (.bool true) := by kernel_rfl
theorem run_1c (c : UInt8) (l : List UInt8) : X.runV T N1 100000 3 [.int .u8 1, .str (c :: l)] = some (.bool true) := by kernel_rfl
theorem run_1 : ∀ (path : List UInt8), X.runV T N1 100000 3 [.int .u8 1, .str path] = some (.bool true)
  | [] => run_1n
  | c :: l => run_1c c l
theorem run_2n : X.runV T N1 100000 3 [.int .u8 2, .str []] = some (.bool true) := by kernel_rfl
theorem run_2c (c : UInt8) (l : List UInt8) : X.runV T N1 100000 3 [.int .u8 2, .str (c :: l)] = some (.bool true) := by kernel_rfl
theorem run_2 : ∀ (path : List UInt8), X.runV T N1 100000 3 [.int .u8 2, .str path] = some (.bool true)
  | [] => run_2n
  | c :: l => run_2c c l
theorem run_3n : X.runV T N1 100000 3 [.int .u8 3, .str []] = some (.bool true) := by kernel_rfl
theorem run_3c (c : UInt8) (l : List UInt8) : X.runV T N1 100000 3 [.int .u8 3, .str (c :: l)] = some (.bool true) := by kernel_rfl
theorem run_3 : ∀ (path : List UInt8), X.runV T N1 100000 3 [.int .u8 3, .str path] = some (.bool true)
  | [] => run_3n
  | c :: l => run_3c c l
theorem run_4n : X.runV T N1 100000 3 [.int .u8 4, .str []] = some (.bool true) := by kernel_rfl
theorem run_4c (c : UInt8) (l : List UInt8) : X.runV T N1 100000 3 [.int .u8 4, .str (c :: l)] = some (.bool true) := by kernel_rfl
theorem run_4 : ∀ (path : List UInt8), X.runV T N1 100000 3 [.int .u8 4, .str path] = some (.bool true)
  | [] => run_4n
  | c :: l => run_4c c l
theorem run_5n : X.runV T N1 100000 3 [.int .u8 5, .str []] = some (.bool true) := by kernel_rfl
theorem run_5c (c : UInt8) (l : List UInt8) : X.runV T N1 100000 3 [.int .u8 5, .str (c :: l)] = some (.bool true) := by kernel_rfl
theorem run_5 : ∀ (path : List UInt8), X.runV T N1 100000 3 [.int .u8 5, .str path] = some (.bool true)
  | [] => run_5n
  | c :: l => run_5c c l
theorem run_6 (path : List UInt8) : X.runV T N1 100000 3 [.int .u8 6, .str path] = some (.bool true) := by kernel_rfl
theorem run_7 (path : List UInt8) : X.runV T N1 100000 3 [.int .u8 7, .str path] = some (.bool true) := by kernel_rfl
theorem run_8n : X.runV T N1 100000 3 [.int .u8 8, .str []] = some (.bool true) := by kernel_rfl
theorem run_8c (c : UInt8) (l : List UInt8) : X.runV T N1 100000 3 [.int .u8 8, .str (c :: l)] = some (.bool true) := by kernel_rfl
theorem run_8 : ∀ (path : List UInt8), X.runV T N1 100000 3 [.int .u8 8, .str path] = some (.bool true)
  | [] => run_8n
  | c :: l => run_8c c l
theorem run_9n : X.runV T N1 100000 3 [.int .u8 9, .str []] = some (.bool true) := by kernel_rfl
theorem run_9c (c : UInt8) (l : List UInt8) : X.runV T N1 100000 3 [.int .u8 9, .str (c :: l)] = some (.bool true) := by kernel_rfl
theorem run_9 : ∀ (path : List UInt8), X.runV T N1 100000 3 [.int .u8 9, .str path] = some (.bool true)
  | [] => run_9n
  | c :: l => run_9c c l
theorem run_10n : X.runV T N1 100000 3 [.int .u8 10, .str []] = some (.bool true) := by kernel_rfl
theorem run_10c (c : UInt8) (l : List UInt8) : X.runV T N1 100000 3 [.int .u8 10, .str (c :: l)] = some (.bool true) := by kernel_rfl
theorem run_10 : ∀ (path : List UInt8), X.runV T N1 100000 3 [.int .u8 10, .str path] = some (.bool true)
  | [] => run_10n
  | c :: l => run_10c c l
theorem run_11 (path : List UInt8) : X.runV T N1 100000 3 [.int .u8 11, .str path] = some (.bool true) := by kernel_rfl
theorem run_12 (path : List UInt8) : X.runV T N1 100000 3 [.int .u8 12, .str path] = some (.bool true) := by kernel_rfl
theorem run_13 (path : List UInt8) : X.runV T N1 100000 3 [.int .u8 13, .str path] = some (.bool true) := by kernel_rfl
theorem run (k : Int) (hk : 0 ≤ k) (path : List UInt8) : X.runV T N1 100000 3 [.int .u8 k, .str path] = some (.bool true) := by
  by_cases h : k < 14
  · have : k = 0 ∨ k = 1 ∨ k = 2 ∨ k = 3 ∨ k = 4 ∨ k = 5 ∨ k = 6 ∨ k = 7 ∨ k = 8 ∨ k = 9 ∨ k = 10 ∨ k = 11 ∨ k = 12 ∨ k = 13 := by omega
    rcases this with rfl | rfl | rfl | rfl | rfl | rfl | rfl | rfl | rfl | rfl | rfl | rfl | rfl | rfl
    · exact run_0 path
    · exact run_1 path
    · exact run_2 path
    · exact run_3 path
    · exact run_4 path
    · exact run_5 path
    · exact run_6 path
    · exact run_7 path
    · exact run_8 path
    · exact run_9 path
    · exact run_10 path
    · exact run_11 path
    · exact run_12 path
    · exact run_13 path
  · obtain ⟨n, rfl⟩ : ∃ n : Nat, k = .ofNat (n + 14) := ⟨(k - 14).toNat, by simp only [Int.ofNat_eq_natCast]; omega⟩
    exact run_big n path
end Go.Proofs.YtljnnfbbeiibcaaGreatDoor
