/- The natives' contracts at this dump: maps.Keys, slices.Sorted, by the kit's own. -/
import Derived.Test.YtljnnfbbeiibcaaGreatDoorLays
import Derived.Test.YtljnnfbbeiibcaaGreatDoorGoxNat2
import Derived.Shelf.SlIter.Nil
import Derived.Shelf.SlIterI.Nil
import Derived.Shelf.SortM.Plain
import Derived.Shelf.SortM.SortNone
import Derived.Ground.GgzProg
import Derived.Ground.SlgmProg
import Derived.Test.YtljnnfbbeiibcaaGreatDoorProg
import Derived.KernelRfl
set_option linter.unusedVariables false
set_option maxRecDepth 100000
namespace Go.Proofs
open Go.RowKit Go.Maps Go.Sort Go.Shelf

theorem Tryz.keysC80 : X.KeysC Tryz.prog 80 120 76 :=
  ⟨by kernel_rfl, fun mb w => callsIn_wide.1 (AnyZ.keys_in Tryz.keys80 Fence.wide 5 trivial rfl mb w)⟩

theorem Tryz.keysC137 : X.KeysC Tryz.prog 137 190 71 :=
  ⟨by kernel_rfl, fun mb w => callsIn_wide.1 (AnyZ.keys_in Tryz.keys137 Fence.wide 5 trivial rfl mb w)⟩

theorem Tryz.keysC157 : X.KeysC Tryz.prog 157 208 101 :=
  ⟨by kernel_rfl, fun mb w => callsIn_wide.1 (AnyZ.keys_in Tryz.keys157 Fence.wide 5 trivial rfl mb w)⟩

theorem Tryz.sorts79 (m : Nat) : AnyZ.SortsIn Tryz.prog Tryz.sorted79_ren Fence.wide m :=
  ⟨fun blk off cap ss W hH hblk hsz => callsIn_wide.2 (AnyM.slices_Sort_string Tryz.sort78 blk off cap ss W hH hblk hsz),
   fun p cap W => callsIn_wide.2 (AnyM.slices_Sort_string_none Tryz.sort78 p cap W)⟩

set_option maxHeartbeats 1000000 in
theorem Tryz.sortedC79_120 : X.SortedC X.skS Tryz.prog 79 120 9 where
  bod := by kernel_rfl
  und := by kernel_rfl
  run := by
    intro Bm b nn D0 R w hB hm hown hs
    refine (callsIn_wide (n := 5)).1 ?_
    have hseq : SeqGives Fence.wide 2 Tryz.prog 120 #[.pointer (some ⟨Bm, 0, none⟩)] encStr (fun ss => ss.Perm (strKeys D0)) (Maps.size D0) w :=
      AnyZ.keys_gives (ρ := Tryz.keys80_ren) { Tryz.keys80 with } Fence.wide _ trivial rfl (by omega) Bm b nn D0 _ hB hm hown
    refine (AnyZ.sorted_in Tryz.sorted79 Fence.wide 5 trivial trivial trivial trivial rfl (by omega) (Tryz.sorts79 _) (enters_of Tryz.func78 (by kernel_rfl) rfl) 120 #[.pointer (some ⟨Bm, 0, none⟩)] trivial (enters_of Tryz.func120 (by kernel_rfl) rfl) _ _ (by simp only [maxLen]; omega) (by omega) _ hseq).mono ?_
    rintro e w' ⟨v, ss, he, hS, hrow, hnil, hb⟩
    refine ⟨v, ss, he, ?_, hrow, hnil, hb⟩
    obtain ⟨es, clock, h1, h2, h3, rfl⟩ := hown
    exact hS
  runNil := by
    intro Bm w hB hm
    refine (callsIn_wide (n := 5)).1 ?_
    have hseq : SeqGives Fence.wide 2 Tryz.prog 120 #[.pointer (some ⟨Bm, 0, none⟩)] encStr (fun ss : List (List UInt8) => ss = []) 0 w :=
      AnyZ.keys_gives_nil (ρ := Tryz.keys80_ren) { Tryz.keys80 with } Fence.wide _ trivial rfl Bm _ hB hm
    refine (AnyZ.sorted_in Tryz.sorted79 Fence.wide 5 trivial trivial trivial trivial rfl (by omega) (Tryz.sorts79 _) (enters_of Tryz.func78 (by kernel_rfl) rfl) 120 #[.pointer (some ⟨Bm, 0, none⟩)] trivial (enters_of Tryz.func120 (by kernel_rfl) rfl) _ 0 (Nat.zero_le _) (by omega) _ hseq).mono ?_
    rintro e w' ⟨v, ss, rfl, rfl, hrow, hnil, hb⟩
    obtain rfl : v = .slice none 0 0 := hnil.2 rfl
    exact ⟨rfl, hb⟩

set_option maxHeartbeats 1000000 in
theorem Tryz.sortedC79_190 : X.SortedC X.skS Tryz.prog 79 190 9 where
  bod := by kernel_rfl
  und := by kernel_rfl
  run := by
    intro Bm b nn D0 R w hB hm hown hs
    refine (callsIn_wide (n := 5)).1 ?_
    have hseq : SeqGives Fence.wide 2 Tryz.prog 190 #[.pointer (some ⟨Bm, 0, none⟩)] encStr (fun ss => ss.Perm (strKeys D0)) (Maps.size D0) w :=
      AnyZ.keys_gives (ρ := Tryz.keys137_ren) { Tryz.keys137 with } Fence.wide _ trivial rfl (by omega) Bm b nn D0 _ hB hm hown
    refine (AnyZ.sorted_in Tryz.sorted79 Fence.wide 5 trivial trivial trivial trivial rfl (by omega) (Tryz.sorts79 _) (enters_of Tryz.func78 (by kernel_rfl) rfl) 190 #[.pointer (some ⟨Bm, 0, none⟩)] trivial (enters_of Tryz.func190 (by kernel_rfl) rfl) _ _ (by simp only [maxLen]; omega) (by omega) _ hseq).mono ?_
    rintro e w' ⟨v, ss, he, hS, hrow, hnil, hb⟩
    refine ⟨v, ss, he, ?_, hrow, hnil, hb⟩
    obtain ⟨es, clock, h1, h2, h3, rfl⟩ := hown
    exact hS
  runNil := by
    intro Bm w hB hm
    refine (callsIn_wide (n := 5)).1 ?_
    have hseq : SeqGives Fence.wide 2 Tryz.prog 190 #[.pointer (some ⟨Bm, 0, none⟩)] encStr (fun ss : List (List UInt8) => ss = []) 0 w :=
      AnyZ.keys_gives_nil (ρ := Tryz.keys137_ren) { Tryz.keys137 with } Fence.wide _ trivial rfl Bm _ hB hm
    refine (AnyZ.sorted_in Tryz.sorted79 Fence.wide 5 trivial trivial trivial trivial rfl (by omega) (Tryz.sorts79 _) (enters_of Tryz.func78 (by kernel_rfl) rfl) 190 #[.pointer (some ⟨Bm, 0, none⟩)] trivial (enters_of Tryz.func190 (by kernel_rfl) rfl) _ 0 (Nat.zero_le _) (by omega) _ hseq).mono ?_
    rintro e w' ⟨v, ss, rfl, rfl, hrow, hnil, hb⟩
    obtain rfl : v = .slice none 0 0 := hnil.2 rfl
    exact ⟨rfl, hb⟩

set_option maxHeartbeats 1000000 in
theorem Tryz.sortedC79_208 : X.SortedC X.skS Tryz.prog 79 208 9 where
  bod := by kernel_rfl
  und := by kernel_rfl
  run := by
    intro Bm b nn D0 R w hB hm hown hs
    refine (callsIn_wide (n := 5)).1 ?_
    have hseq : SeqGives Fence.wide 2 Tryz.prog 208 #[.pointer (some ⟨Bm, 0, none⟩)] encStr (fun ss => ss.Perm (strKeys D0)) (Maps.size D0) w :=
      AnyZ.keys_gives (ρ := Tryz.keys157_ren) { Tryz.keys157 with } Fence.wide _ trivial rfl (by omega) Bm b nn D0 _ hB hm hown
    refine (AnyZ.sorted_in Tryz.sorted79 Fence.wide 5 trivial trivial trivial trivial rfl (by omega) (Tryz.sorts79 _) (enters_of Tryz.func78 (by kernel_rfl) rfl) 208 #[.pointer (some ⟨Bm, 0, none⟩)] trivial (enters_of Tryz.func208 (by kernel_rfl) rfl) _ _ (by simp only [maxLen]; omega) (by omega) _ hseq).mono ?_
    rintro e w' ⟨v, ss, he, hS, hrow, hnil, hb⟩
    refine ⟨v, ss, he, ?_, hrow, hnil, hb⟩
    obtain ⟨es, clock, h1, h2, h3, rfl⟩ := hown
    exact hS
  runNil := by
    intro Bm w hB hm
    refine (callsIn_wide (n := 5)).1 ?_
    have hseq : SeqGives Fence.wide 2 Tryz.prog 208 #[.pointer (some ⟨Bm, 0, none⟩)] encStr (fun ss : List (List UInt8) => ss = []) 0 w :=
      AnyZ.keys_gives_nil (ρ := Tryz.keys157_ren) { Tryz.keys157 with } Fence.wide _ trivial rfl Bm _ hB hm
    refine (AnyZ.sorted_in Tryz.sorted79 Fence.wide 5 trivial trivial trivial trivial rfl (by omega) (Tryz.sorts79 _) (enters_of Tryz.func78 (by kernel_rfl) rfl) 208 #[.pointer (some ⟨Bm, 0, none⟩)] trivial (enters_of Tryz.func208 (by kernel_rfl) rfl) _ 0 (Nat.zero_le _) (by omega) _ hseq).mono ?_
    rintro e w' ⟨v, ss, rfl, rfl, hrow, hnil, hb⟩
    obtain rfl : v = .slice none 0 0 := hnil.2 rfl
    exact ⟨rfl, hb⟩

def Tryz.nats : List (Nat × X.NatE) := [(80, .keys 120), (137, .keys 190), (157, .keys 208), (79, .sortS [120, 190, 208])]
theorem Tryz.nats_ok : ∀ x ∈ Tryz.nats, X.NatOk Tryz.prog x.1 x.2 := by
  intro x hx
  simp only [Tryz.nats, List.mem_cons, List.not_mem_nil, or_false] at hx
  rcases hx with rfl | rfl | rfl | rfl
  · exact ⟨_, Tryz.keysC80⟩
  · exact ⟨_, Tryz.keysC137⟩
  · exact ⟨_, Tryz.keysC157⟩
  · intro g hg
    simp only [List.mem_cons, List.not_mem_nil, or_false] at hg
    rcases hg with rfl | rfl | rfl
    · exact ⟨_, Tryz.sortedC79_120⟩
    · exact ⟨_, Tryz.sortedC79_190⟩
    · exact ⟨_, Tryz.sortedC79_208⟩
end Go.Proofs
