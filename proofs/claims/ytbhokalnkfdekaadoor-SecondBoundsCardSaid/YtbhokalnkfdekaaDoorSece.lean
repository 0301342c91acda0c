/- Package second: Entries. -/
import Derived.Test.YtbhokalnkfdekaaDoorSecd
namespace Go.Proofs.YtbhokalnkfdekaaDoor
open Go.RowKit
open Go.Proofs Go.Maps

def entriesOf (S : Sc) (l : List Nat) : List En := l.filterMap S.M
theorem entriesOf_snoc (S : Sc) (l : List Nat) (p : Nat) (x : En) (h : S.M p = some x) : entriesOf S (l ++ [p]) = entriesOf S l ++ [x] := by
  simp [entriesOf, h]

set_option maxRecDepth 100000 in
set_option maxHeartbeats 2000000 in
theorem entries_any (s d b m : Nat) (S : Sc) (w : World) (h : IsSc w s d b m S) (hm : m ≤ 1000000) :
    Calls Tryd.prog 16 #[.pointer (some ⟨s, 0, none⟩)] w fun e w' => ∃ v, e = .returned v ∧ Row w' w.heap.size v (entriesOf S (placesOf S)) ∧ Kept w w' := by
  obtain ⟨i0, hi, hz0, hz1, hz2⟩ := info_parts Tryd.infoEn
  have c3 := h.c3
  have hlt := lt_blk h.blk
  have hCS := sorted_sc b m S w h.mp h.okm hm
  have hpl := placesOf_len S h.okn
  have HCS := Lib.hid hCS
  have H := Lib.hid h
  clear h hCS
  go_enter Tryd.func16, Tryd.ntmps16
  go_wp2_with fail
  refine (keys_any b w).mono ?_
  rintro e w1 ⟨rfl, rfl⟩
  go_wp2_with fail
  refine HCS.out.mono ?_
  rintro e w2 ⟨v, rfl, hrow, hk⟩
  obtain ⟨q, c, rfl⟩ := hrow.slice
  have c3' : w2.cell? ⟨s, 3, none⟩ = some (.map (some b)) := by rw [hk.cell hlt]; exact c3
  have hsz2 := hk.size
  obtain ⟨L, hL⟩ : ∃ L, L = (placesOf S).length := ⟨_, rfl⟩
  have hmp2 := H.out.mp.kept hk
  have hrow2 := hrow
  rw [← hL] at hpl ⊢
  have HROW := Lib.hid hrow
  have HK := Lib.hid hk
  have HL := Lib.hid hL
  have HM2 := Lib.hid hmp2
  clear hrow hk HCS hL c3 hmp2 hrow2
  go_wp2
  go_loopw [3, 15] (fun v i wr => ∃ (k : Nat) (p' : Option Addr) (c' : Nat), k ≤ L ∧ i = .int .i64 k ∧ v = .slice p' (entriesOf S ((placesOf S).take k)).length c' ∧ Row wr w2.heap.size v (entriesOf S ((placesOf S).take k)) ∧ Kept w2 wr) (fun _ i _ => L - (intOf i).toNat)
  case atStart => exact ⟨0, none, 0, by omega, rfl, rfl, World.ownsRow_nil _ _ _ _, Kept.refl _⟩
  case round =>
    obtain ⟨k, p', c', hk, rfl, rfl, hro, hkr⟩ := hrel
    have hel : (entriesOf S ((placesOf S).take k)).length ≤ 1000 := by
      have h1 : (entriesOf S ((placesOf S).take k)).length ≤ ((placesOf S).take k).length := List.length_filterMap_le _ _
      rw [List.length_take] at h1
      omega
    have hszr := hkr.size
    by_cases hlk : k < L
    · obtain ⟨p, hp⟩ : ∃ p, (placesOf S)[k]? = some p := ⟨_, List.getElem?_eq_getElem (by have := HL.out; omega)⟩
      have hpm := List.mem_of_getElem? hp
      obtain ⟨x, hx⟩ : ∃ x, S.M p = some x := Option.isSome_iff_exists.1 (List.mem_filter.1 hpm).2
      have hpr := (H.out.okm p x hx).1
      have hp4 : p ≤ 1000 := by have := H.out.okn; unfold roomN at hpr; omega
      obtain ⟨g, rfl, _, hgl⟩ := HROW.out.blk (by have := HL.out; omega)
      have e0 := (HROW.out.kept hkr).cell hp
      have hlook := (HM2.out.kept hkr).look Tryd.underlying53 (Tryd.zeroValue69 wr) (k := (p : Int)) (by unfold Wf; omega)
      rw [mapV_nat, hx] at hlook
      simp only [Option.map_some, Option.getD_some, enV, enCells] at hlook
      have d3 : wr.cell? ⟨s, 3, none⟩ = some (.map (some b)) := by rw [hkr.cell (show s < w2.heap.size by omega)]; exact c3'
      have htk : entriesOf S ((placesOf S).take (k + 1)) = entriesOf S ((placesOf S).take k) ++ [x] := by
        rw [List.take_add_one, hp]; exact entriesOf_snoc S _ p x hx
      have hrow2 : Row (wr.alloc (.cells (enCells x).toArray 69)) w2.heap.size (.slice p' (entriesOf S ((placesOf S).take k)).length c') (entriesOf S ((placesOf S).take k)) := hro.kept ((Below.refl _ _).alloc (Nat.le_refl _) _)
      have HTK := Lib.hid htk
      have HRO := Lib.hid hro
      have HKR := Lib.hid hkr
      have HX := Lib.hid hx
      clear hpm hp hx htk hro hkr
      go_wp2_with (at_builtin; refine wpList_append_own _ rfl _ _ 45 rfl w2.heap.size 69 i0 _ 4 48 Tryd.underlying45 hi hz0 hz1 hz2 rfl (by decide) _ _ _ rfl hrow2 ⟨wr.heap.size, 0, none⟩ 1 1 (enCells x) rfl rfl (World.news_of_block (cs := (enCells x).toArray) (t := 69) (fr := (0, 0)) (heap_alloc_new wr _)) (by simp [Value.oneCell', enCells]) (by unfold maxLen; omega) (by omega) (by simp; omega) ?_)
      intro v' w3 hown' hgrow _
      obtain ⟨ao, n', cap, rfl⟩ : ∃ ao n' cap, v' = .slice ao n' cap := by
        rcases hown'.2 with ⟨hv, _⟩ | ⟨g', cap, cur, hv, _⟩
        · exact ⟨_, _, _, hv⟩
        · exact ⟨_, _, _, hv⟩
      have HOWN := Lib.hid hown'
      have HGROW := Lib.hid hgrow
      clear hown' hgrow
      go_wp2
      go_roundw
      case rel =>
        have h1 : Row w3 w2.heap.size (.slice ao n' cap) (entriesOf S ((placesOf S).take k) ++ [x]) := by unfold Row; rw [esCells_snoc, List.length_append]; exact HOWN.out
        obtain ⟨pp, cc, hv⟩ := h1.slice
        refine ⟨k + 1, pp, cc, by omega, by go_num, by rw [HTK.out]; exact hv, by rw [HTK.out]; exact h1, ?_⟩
        exact (HKR.out.alloc hszr _).grown HGROW.out (by simp; omega) (fun k' hk' => (World.ownsRow.lt hrow2 k' hk').1)
      case measure => simp [intOf]; omega
    · obtain rfl : k = L := by omega
      have hfull : (placesOf S).take k = placesOf S := List.take_of_length_le (by have := HL.out; omega)
      rw [hfull] at hro ⊢
      have HRO := Lib.hid hro
      have HKR := Lib.hid hkr
      clear hro hkr
      go_wp2
      go_ret
      have h2 := HRO.out
      refine ⟨_, rfl, ⟨h2.1, h2.2.imp id ?_⟩, Kept.trans HK.out HKR.out⟩
      rintro ⟨g, cap, cur, h3, h4, h5⟩
      exact ⟨g, cap, cur, h3, by omega, h5⟩
end Go.Proofs.YtbhokalnkfdekaaDoor
