/- maps.Keys and slices.Sorted at a map with int keys. -/
import Derived.Test.YtbhokalnkfdekaaDoorMap
import Derived.Test.YtbhokalnkfdekaaDoorKeyLay
import Derived.RangeFuncBound
namespace Go.Proofs.YtbhokalnkfdekaaDoor
open Go.RowKit
open Go.Proofs Go.Maps Go.Sort Go.Shelf

theorem Tryd.sortsA (m : Nat) : AnyZI.SortsIn Tryd.prog Tryd.sortedA_ren Fence.wide m :=
  ⟨fun blk off cap ss W hH hblk hsz => callsIn_wide.2 (Tryd.slices_Sort_int blk off cap ss W hH hblk hsz),
   fun p cap W => callsIn_wide.2 (Tryd.slices_Sort_int_none p cap W)⟩

theorem keys_any (b : Nat) (w : World) : Calls Tryd.prog 33 #[.map (some b)] w fun e w' =>
    e = .returned (.func (.func 46) #[] #[.pointer (some ⟨w.heap.size, 0, none⟩)]) ∧ w' = w.alloc (.cells #[.map (some b)] 53) := by
  go_enter Tryd.func33, Tryd.ntmps33
  go_wp2
  go_ret
  exact ⟨rfl, rfl⟩

theorem sorted_one {ss pks : List Int} (hp : ss.Perm pks) (hs : pks.Pairwise (· < ·)) : ss.mergeSort (fun x y => decide (x ≤ y)) = pks := by
  rw [mergeSort_of_perm_i hp]
  exact List.mergeSort_of_pairwise (hs.imp (fun h => by simp only [decide_eq_true_eq]; omega))

theorem sorted_any (b n : Nat) (M : Int → Option Value) (pks : List Int) (w : World) (h : Mp w b n M) (hn : n ≤ 1000000000) (hs : pks.Pairwise (· < ·)) (hm : ∀ k, k ∈ pks ↔ (M k).isSome = true) :
    Calls Tryd.prog 32 #[.func (.func 46) #[] #[.pointer (some ⟨w.heap.size, 0, none⟩)]] (w.alloc (.cells #[.map (some b)] 53)) fun e w' =>
      ∃ v, e = .returned v ∧ w'.ownsRow (w.heap.size + 1) 3 1 v pks.length (pks.map encZ) ∧ Kept w w' := by
  obtain ⟨D, hown, hM⟩ := h
  have hsz : Maps.size D ≤ 1000000000 := Nat.le_trans hown.size_le hn
  have hseq : SeqGives Fence.wide 2 Tryd.prog 46 #[.pointer (some ⟨w.heap.size, 0, none⟩)] encZ (fun ss => ss.Perm (intKeys D)) (Maps.size D) (w.alloc (.cells #[.map (some b)] 53)) :=
    AnyZI.keys_gives (ρ := Tryd.keysA_ren) { Tryd.keysA with } Fence.wide _ trivial rfl (by omega) w.heap.size b n D _ (by simp) (by simp) (by
      obtain ⟨es, clock, hb, Ft, hs', hD⟩ := hown
      exact ⟨es, clock, (Below.heap_alloc _ _ b (World.ownsMap.lt ⟨es, clock, hb, Ft, hs', hD⟩)).trans hb, Ft, hs', hD⟩)
  have cS := AnyZI.sorted_in Tryd.sortedA Fence.wide 5 trivial trivial trivial trivial rfl (by omega) (Tryd.sortsA _) (enters_of Tryd.func45 (by kernel_rfl) rfl) 46 #[.pointer (some ⟨w.heap.size, 0, none⟩)] trivial (enters_of Tryd.func46 (by kernel_rfl) rfl) _ _ (by unfold maxLen; omega) (by omega) _ hseq
  change CallsIn _ _ Tryd.prog 32 _ _ _ at cS
  refine (callsIn_wide (n := 5)).1 (cS.mono ?_)
  rintro e w' ⟨v, ss, rfl, hS, hrow, hnil, hb⟩
  have hperm : ss.Perm pks := by
    obtain ⟨es, hD, hpw, _⟩ := hown.entries int_K
    obtain ⟨es', hD', hko⟩ := hown.keysOf
    obtain rfl : es = es' := by rw [hD] at hD'; simpa using hD'
    subst hD
    refine hS.trans (perm_intKeys hpw (fun p hp => by obtain ⟨v, hv⟩ := hko p hp; obtain ⟨x, _, hx, _⟩ := Maps.keyOf_i64 Tryd.underlying3 hv; exact ⟨x, hx⟩) (hs.imp (fun h => by omega)) (fun x => ?_)).symm
    rw [hm x, show Maps.has (.map es) (.int .i64 x) = (M x).isSome from Mp.has hM x]
  have hl : ss.length = pks.length := hperm.length_eq
  rw [sorted_one hperm hs, hl] at hrow
  have hrow2 : w'.ownsRow (w.heap.size + 1) 3 1 v pks.length (pks.map encZ) := by
    have : (w.alloc (.cells #[.map (some b)] 53)).heap.size = w.heap.size + 1 := by simp
    rw [← this]; exact hrow
  exact ⟨v, rfl, hrow2, ((Below.refl _ w).alloc (Nat.le_refl _) _).trans (hb.mono (by simp))⟩
end Go.Proofs.YtbhokalnkfdekaaDoor
