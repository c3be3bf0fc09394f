/- DaemonBusy: whatever the arguments, the law returns true, and its arguments read as they did. Conditions: the row's own (the listed package variables hold what the program's text lays). -/
import Derived.Test.YtnieadkafeohlaaGreatDoorBusyRun
import Derived.Test.YtnieadkafeohlaaGreatDoorBusyFacts
import Derived.Test.YtnieadkafeohlaaGreatDoorCards
import Derived.Test.YtnieadkafeohlaaGreatDoorTie
import Derived.Test.YtnieadkafeohlaaGreatDoorGoxLaid
import Derived.ProofKit
import Derived.OpenShut
import Derived.Deep.DeepHandedRow
import Derived.Lib.LaidTab
set_option linter.unusedVariables false
set_option maxRecDepth 100000
namespace Go.Proofs.YtnieadkafeohlaaGreatDoor.daemonBusy
open Go.ChangeShapes Go.WideShapes Go.ChangeAt Go.RowKit

theorem own : ownKnob Tryz.prog.godebug = none := by kernel_rfl
theorem laidOut : laidOutB Tryz.prog = true := by kernel_rfl

theorem contract (H : Type) (enc : TypeId × Value → H) (W : World) (base : Nat) (args : Array Value) (ds gs : List (DataW H)) (before : List MemPlace)
    (hval : ∀ (j : Nat) t v, Tryz.f5.params[j]? = some t → args[j]? = some v → Value.okWide Tryz.prog W .any base t v)
    (hW : DataW.Whole enc Tryz.prog Tryz.f5.params.toList Rows.daemonBusySpec.vars false W args.toList ds gs before) (hL : laidMetH Tryz.prog Rows.daemonBusyRow.laid W) :
    Calls Tryz.prog 5 args W fun e W' => ∃ v, e = .returned v ∧ Rows.daemonBusySpec.post enc Tryz.prog Tryz.f5 false true false false W args v W' := by
  have hW' := hW
  have hlt := hW.lt
  obtain ⟨p, q, hA0, hV, rfl, hfz, hnd⟩ := hW
  have hA : DataW.TrodAll enc Tryz.prog W 0 (fun _ => true) true Tryz.f5.params.toList args.toList ds p := hA0
  rw [Tryz.params5] at hA hval
  obtain ⟨v0, vs0, d0, ds0, p0, q0, hargs0, rfl, rfl, h0, r0⟩ := trodAll_cons hA
  obtain ⟨v1, vs1, d1, ds1, p1, q1, hargs1, rfl, rfl, h1, r1⟩ := trodAll_cons r0
  obtain ⟨rfl, rfl, rfl⟩ := trodAll_nil r1
  obtain rfl : args = #[v0, v1] := by cases args; simp_all
  obtain ⟨rfl, rfl⟩ := trodVars_none hV
  obtain ⟨k0, rfl, rfl, rfl, hk0⟩ := open_int Tryz.underlying5 (hval 0 5 v0 rfl rfl) h0
  obtain ⟨k1, rfl, rfl, rfl, hk1⟩ := open_int Tryz.underlying5 (hval 1 5 v1 rfl rfl) h1
  have hn : 0 ≤ k0 := by
    have h1 : IntKind.u8.min = 0 := by decide
    simp only [Lit.wf, h1, Bool.and_eq_true, decide_eq_true_eq] at hk0
    exact hk0.1
  refine (X.calls_of_acalls (ng := ng (sigB k0 k1) (fxB (k0.tmod 12) (decide (200 < k1))) (fxB_ok k0 k1)) (avs := [.isym .u8 0, .isym .u8 1]) (X.rel0 (glob_ok _ _ _ (l := Rows.daemonBusyRow.laid) hL (by simp [Rows.daemonBusyRow]) (by simp [Rows.daemonBusyRow]) (by simp [Rows.daemonBusyRow]))) ?_
    (X.runV_acalls (env1 _ _ _) (X.isT_ok (busy_run k0 k1 hn)))).mono ?_
  · exact .cons (show X.V (X.kap0 W (sigB k0 k1)) W (.isym .u8 0) (.int .u8 k0) from .isym .u8 0) (.cons (show X.V (X.kap0 W (sigB k0 k1)) W (.isym .u8 1) (.int .u8 k1) from .isym .u8 1) .nil)
  rintro e W' ⟨rfl, hb⟩
  refine ⟨_, rfl, X.law_post laidOut ?_ rfl (by kernel_rfl) Tryz.underlying4 ?_ hW' hb⟩
  · rw [Tryz.params5]
    intro t ht
    simp only [List.mem_cons, List.not_mem_nil, or_false] at ht
    rcases ht with rfl | rfl
    · exact ⟨by kernel_rfl, of_decide_eq_true (by kernel_rfl)⟩
    · exact ⟨by kernel_rfl, of_decide_eq_true (by kernel_rfl)⟩
  · simp [Rows.daemonBusySpec]

noncomputable def lw (os : Os) : World := X.laidWorld Tryz.prog os [(2, Rows.laid_godown_hash_first), (3, Rows.laid_godown_hash_keys), (6, Rows.laid_unicode_utf8_acceptRanges), (1, Rows.laid_godown_request_names), (5, Rows.laid_unicode_utf8_first)]
theorem laid_met (os : Os) : laidMet Tryz.prog Rows.daemonBusyRow.laid ((lw os).forCall (fun _ _ => 0) ⟨#[], #[.int .u8 0, .int .u8 0], []⟩).memory :=
  laidMet_of_run' 8 (by kernel_rfl) (by kernel_rfl)
theorem reads (os : Os) {H : Type} (enc : TypeId × Value → H) : ∃ places, DataW.whole enc Tryz.prog ((lw os).forCall (fun _ _ => 0) ⟨#[], #[.int .u8 0, .int .u8 0], []⟩).memory Tryz.f5.params.toList Rows.daemonBusySpec.vars false #[Value.int .u8 0, .int .u8 0].toList 8 = some ([.lit (.int .u8 0), .lit (.int .u8 0)], [], places) :=
  ⟨[], by kernel_rfl⟩

theorem lifted (os : Os) (started : os.Started) (H : Type) (enc : TypeId × Value → H) (F : Stop.Interp) :
    ReturnsInHanded {} Tryz.checked os 5 .any ((OpenSpec.ofChange Rows.daemonBusySpec).preRow enc Tryz.prog Tryz.f5 Rows.daemonBusyRow.domain false Rows.daemonBusyRow.laid) (((OpenSpec.ofChange Rows.daemonBusySpec).at F).post enc Tryz.prog Tryz.f5 false true false false) := by
  obtain ⟨places, hx⟩ := reads os enc
  refine returnsInHanded_of_row (C := Tryz.checked) (s := OpenSpec.ofChange Rows.daemonBusySpec) own started (by kernel_rfl) Tryz.func5
    (witness_row_at (enc := enc) (C := Tryz.checked) false (lw os) #[.int .u8 0, .int .u8 0] rfl (by kernel_rfl) (by kernel_rfl) (by kernel_rfl)
      (OpenSpec.preRow_of_cond 8 hx (by kernel_rfl) (fun k hk => by cases hk) (by kernel_rfl) (laid_met os))) ?_
  intro W base args ds gs before hval hW _ _ _ hL _ _
  exact contract H enc W base args ds gs before hval hW hL

theorem said : Rows.DaemonBusySaid :=
  OpenClaim.holds_of_cond 5 Tryz.f5 rfl rfl rfl rfl rfl rfl rfl ⟨rfl, rfl, rfl, rfl, rfl⟩ rfl rfl rfl rfl rfl (by kernel_rfl) Tryz.func5 closed
    (of_decide_eq_true (by kernel_rfl)) (by unfold Func.isWrapper; first | (rw [if_pos (by decide +kernel)]; kernel_rfl) | (rw [if_neg (by decide +kernel)]; exact ⟨rfl, rfl⟩))
    (fun os started H enc _ F => by rw [OpenClaim.pre_eq_preRow]; exact lifted os started H enc F)

theorem plain (f : FuncId) (fn : Func) (hf : Tryz.pinned.checked.prog.funcNamed "godown/godownlaw19.DaemonBusy" = some f) (hfn : Tryz.pinned.checked.prog.funcs[f]? = some fn) :
    true = Tryz.pinned.checked.prog.looks [] ∧ ∀ (j : Nat) t, fn.params[j]? = some t → Tryz.pinned.checked.prog.wantsStandIn t = false := by
  obtain rfl : f = 5 := Option.some.inj ((show Tryz.prog.funcNamed "godown/godownlaw19.DaemonBusy" = some 5 by kernel_rfl).symm.trans hf) |>.symm
  obtain rfl : fn = Tryz.f5 := (Option.some.inj (Tryz.func5.symm.trans hfn)).symm
  refine ⟨by kernel_rfl, fun j t ht => ?_⟩
  rw [Tryz.params5] at ht
  have h5 := Array.mem_of_getElem? ht
  simp only [List.mem_toArray, List.mem_cons, List.not_mem_nil, or_false] at h5
  rcases h5 with rfl | rfl
  · exact (show Tryz.prog.wantsStandIn 5 = false by kernel_rfl)
  · exact (show Tryz.prog.wantsStandIn 5 = false by kernel_rfl)

/-- The card. -/
theorem card : Rows.DaemonBusyCardSaid :=
  Claim7.holds_tied_plain_at .later [] _ _ _ _ said (fun _ h => by cases h) (by kernel_rfl) (fun _ h => by cases h) daemonBusy_row_tie rfl ⟨rfl, rfl⟩ (by kernel_rfl) rfl plain (by kernel_rfl)
end Go.Proofs.YtnieadkafeohlaaGreatDoor.daemonBusy
