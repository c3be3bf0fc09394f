/- The natives' contracts at this dump: maps.Keys, slices.Sorted, by the kit's own. -/
import Derived.Test.YtnieadkafeohlaaGreatDoorLays
import Derived.Test.YtnieadkafeohlaaGreatDoorGoxNat2
import Derived.Shelf.SlIter.Nil
import Derived.Shelf.SlIterI.Nil
import Derived.Shelf.SortM.Plain
import Derived.Shelf.SortM.SortNone
import Derived.Ground.GgzProg
import Derived.Ground.SlgmProg
import Derived.Test.YtnieadkafeohlaaGreatDoorProg
import Derived.KernelRfl
set_option linter.unusedVariables false
set_option maxRecDepth 100000
namespace Go.Proofs
open Go.RowKit Go.Maps Go.Sort Go.Shelf

theorem Tryz.keysC102 : X.KeysC Tryz.prog 102 140 172 :=
  ⟨by kernel_rfl, fun mb w => callsIn_wide.1 (AnyZ.keys_in Tryz.keys102 Fence.wide 5 trivial rfl mb w)⟩

theorem Tryz.keysC103 : X.KeysC Tryz.prog 103 141 146 :=
  ⟨by kernel_rfl, fun mb w => callsIn_wide.1 (AnyZ.keys_in Tryz.keys103 Fence.wide 5 trivial rfl mb w)⟩

theorem Tryz.keysC214 : X.KeysC Tryz.prog 214 269 109 :=
  ⟨by kernel_rfl, fun mb w => callsIn_wide.1 (AnyZ.keys_in Tryz.keys214 Fence.wide 5 trivial rfl mb w)⟩

theorem Tryz.sorts101 (m : Nat) : AnyZ.SortsIn Tryz.prog Tryz.sorted101_ren Fence.wide m :=
  ⟨fun blk off cap ss W hH hblk hsz => callsIn_wide.2 (AnyM.slices_Sort_string Tryz.sort139 blk off cap ss W hH hblk hsz),
   fun p cap W => callsIn_wide.2 (AnyM.slices_Sort_string_none Tryz.sort139 p cap W)⟩

set_option maxHeartbeats 1000000 in
theorem Tryz.sortedC101_140 : X.SortedC X.skS Tryz.prog 101 140 9 where
  bod := by kernel_rfl
  und := by kernel_rfl
  run := by
    intro Bm b nn D0 R w hB hm hown hs
    refine (callsIn_wide (n := 5)).1 ?_
    have hseq : SeqGives Fence.wide 2 Tryz.prog 140 #[.pointer (some ⟨Bm, 0, none⟩)] encStr (fun ss => ss.Perm (strKeys D0)) (Maps.size D0) w :=
      AnyZ.keys_gives (ρ := Tryz.keys102_ren) { Tryz.keys102 with } Fence.wide _ trivial rfl (by omega) Bm b nn D0 _ hB hm hown
    refine (AnyZ.sorted_in Tryz.sorted101 Fence.wide 5 trivial trivial trivial trivial rfl (by omega) (Tryz.sorts101 _) (enters_of Tryz.func139 (by kernel_rfl) rfl) 140 #[.pointer (some ⟨Bm, 0, none⟩)] trivial (enters_of Tryz.func140 (by kernel_rfl) rfl) _ _ (by simp only [maxLen]; omega) (by omega) _ hseq).mono ?_
    rintro e w' ⟨v, ss, he, hS, hrow, hnil, hb⟩
    refine ⟨v, ss, he, ?_, hrow, hnil, hb⟩
    obtain ⟨es, clock, h1, h2, h3, rfl⟩ := hown
    exact hS
  runNil := by
    intro Bm w hB hm
    refine (callsIn_wide (n := 5)).1 ?_
    have hseq : SeqGives Fence.wide 2 Tryz.prog 140 #[.pointer (some ⟨Bm, 0, none⟩)] encStr (fun ss : List (List UInt8) => ss = []) 0 w :=
      AnyZ.keys_gives_nil (ρ := Tryz.keys102_ren) { Tryz.keys102 with } Fence.wide _ trivial rfl Bm _ hB hm
    refine (AnyZ.sorted_in Tryz.sorted101 Fence.wide 5 trivial trivial trivial trivial rfl (by omega) (Tryz.sorts101 _) (enters_of Tryz.func139 (by kernel_rfl) rfl) 140 #[.pointer (some ⟨Bm, 0, none⟩)] trivial (enters_of Tryz.func140 (by kernel_rfl) rfl) _ 0 (Nat.zero_le _) (by omega) _ hseq).mono ?_
    rintro e w' ⟨v, ss, rfl, rfl, hrow, hnil, hb⟩
    obtain rfl : v = .slice none 0 0 := hnil.2 rfl
    exact ⟨rfl, hb⟩

set_option maxHeartbeats 1000000 in
theorem Tryz.sortedC101_141 : X.SortedC X.skS Tryz.prog 101 141 9 where
  bod := by kernel_rfl
  und := by kernel_rfl
  run := by
    intro Bm b nn D0 R w hB hm hown hs
    refine (callsIn_wide (n := 5)).1 ?_
    have hseq : SeqGives Fence.wide 2 Tryz.prog 141 #[.pointer (some ⟨Bm, 0, none⟩)] encStr (fun ss => ss.Perm (strKeys D0)) (Maps.size D0) w :=
      AnyZ.keys_gives (ρ := Tryz.keys103_ren) { Tryz.keys103 with } Fence.wide _ trivial rfl (by omega) Bm b nn D0 _ hB hm hown
    refine (AnyZ.sorted_in Tryz.sorted101 Fence.wide 5 trivial trivial trivial trivial rfl (by omega) (Tryz.sorts101 _) (enters_of Tryz.func139 (by kernel_rfl) rfl) 141 #[.pointer (some ⟨Bm, 0, none⟩)] trivial (enters_of Tryz.func141 (by kernel_rfl) rfl) _ _ (by simp only [maxLen]; omega) (by omega) _ hseq).mono ?_
    rintro e w' ⟨v, ss, he, hS, hrow, hnil, hb⟩
    refine ⟨v, ss, he, ?_, hrow, hnil, hb⟩
    obtain ⟨es, clock, h1, h2, h3, rfl⟩ := hown
    exact hS
  runNil := by
    intro Bm w hB hm
    refine (callsIn_wide (n := 5)).1 ?_
    have hseq : SeqGives Fence.wide 2 Tryz.prog 141 #[.pointer (some ⟨Bm, 0, none⟩)] encStr (fun ss : List (List UInt8) => ss = []) 0 w :=
      AnyZ.keys_gives_nil (ρ := Tryz.keys103_ren) { Tryz.keys103 with } Fence.wide _ trivial rfl Bm _ hB hm
    refine (AnyZ.sorted_in Tryz.sorted101 Fence.wide 5 trivial trivial trivial trivial rfl (by omega) (Tryz.sorts101 _) (enters_of Tryz.func139 (by kernel_rfl) rfl) 141 #[.pointer (some ⟨Bm, 0, none⟩)] trivial (enters_of Tryz.func141 (by kernel_rfl) rfl) _ 0 (Nat.zero_le _) (by omega) _ hseq).mono ?_
    rintro e w' ⟨v, ss, rfl, rfl, hrow, hnil, hb⟩
    obtain rfl : v = .slice none 0 0 := hnil.2 rfl
    exact ⟨rfl, hb⟩

set_option maxHeartbeats 1000000 in
theorem Tryz.sortedC101_269 : X.SortedC X.skS Tryz.prog 101 269 9 where
  bod := by kernel_rfl
  und := by kernel_rfl
  run := by
    intro Bm b nn D0 R w hB hm hown hs
    refine (callsIn_wide (n := 5)).1 ?_
    have hseq : SeqGives Fence.wide 2 Tryz.prog 269 #[.pointer (some ⟨Bm, 0, none⟩)] encStr (fun ss => ss.Perm (strKeys D0)) (Maps.size D0) w :=
      AnyZ.keys_gives (ρ := Tryz.keys214_ren) { Tryz.keys214 with } Fence.wide _ trivial rfl (by omega) Bm b nn D0 _ hB hm hown
    refine (AnyZ.sorted_in Tryz.sorted101 Fence.wide 5 trivial trivial trivial trivial rfl (by omega) (Tryz.sorts101 _) (enters_of Tryz.func139 (by kernel_rfl) rfl) 269 #[.pointer (some ⟨Bm, 0, none⟩)] trivial (enters_of Tryz.func269 (by kernel_rfl) rfl) _ _ (by simp only [maxLen]; omega) (by omega) _ hseq).mono ?_
    rintro e w' ⟨v, ss, he, hS, hrow, hnil, hb⟩
    refine ⟨v, ss, he, ?_, hrow, hnil, hb⟩
    obtain ⟨es, clock, h1, h2, h3, rfl⟩ := hown
    exact hS
  runNil := by
    intro Bm w hB hm
    refine (callsIn_wide (n := 5)).1 ?_
    have hseq : SeqGives Fence.wide 2 Tryz.prog 269 #[.pointer (some ⟨Bm, 0, none⟩)] encStr (fun ss : List (List UInt8) => ss = []) 0 w :=
      AnyZ.keys_gives_nil (ρ := Tryz.keys214_ren) { Tryz.keys214 with } Fence.wide _ trivial rfl Bm _ hB hm
    refine (AnyZ.sorted_in Tryz.sorted101 Fence.wide 5 trivial trivial trivial trivial rfl (by omega) (Tryz.sorts101 _) (enters_of Tryz.func139 (by kernel_rfl) rfl) 269 #[.pointer (some ⟨Bm, 0, none⟩)] trivial (enters_of Tryz.func269 (by kernel_rfl) rfl) _ 0 (Nat.zero_le _) (by omega) _ hseq).mono ?_
    rintro e w' ⟨v, ss, rfl, rfl, hrow, hnil, hb⟩
    obtain rfl : v = .slice none 0 0 := hnil.2 rfl
    exact ⟨rfl, hb⟩

def Tryz.nats : List (Nat × X.NatE) := [(102, .keys 140), (103, .keys 141), (214, .keys 269), (101, .sortS [140, 141, 269])]
theorem Tryz.nats_ok : ∀ x ∈ Tryz.nats, X.NatOk Tryz.prog x.1 x.2 := by
  intro x hx
  simp only [Tryz.nats, List.mem_cons, List.not_mem_nil, or_false] at hx
  rcases hx with rfl | rfl | rfl | rfl
  · exact ⟨_, Tryz.keysC102⟩
  · exact ⟨_, Tryz.keysC103⟩
  · exact ⟨_, Tryz.keysC214⟩
  · intro g hg
    simp only [List.mem_cons, List.not_mem_nil, or_false] at hg
    rcases hg with rfl | rfl | rfl
    · exact ⟨_, Tryz.sortedC101_140⟩
    · exact ⟨_, Tryz.sortedC101_141⟩
    · exact ⟨_, Tryz.sortedC101_269⟩
end Go.Proofs
