/- Package second: Find. -/
import Derived.Test.YtbhokalnkfdekaaDoorSece
namespace Go.Proofs.YtbhokalnkfdekaaDoor
open Go.RowKit
open Go.Proofs Go.Maps

/-- does what lies at an entry's sector fit it? -/
def fits (R : List Int) (D : Dv) (x : En) : Bool := decide ((D.get 1 x.at').size = x.len) && decide (sumOf R (D.get 1 x.at') = x.sum)
def dropM (M : Nat → Option En) (p : Nat) : Nat → Option En := fun j => if j = p then none else M j

theorem find_some {S : Sc} {key : ByteArray} {p : Nat} (h : findP S key = some p) : ∃ x, S.M p = some x ∧ x.key = key := by
  have h1 := List.find?_some h
  unfold hasKey at h1
  cases hx : S.M p with
  | none => rw [hx] at h1; cases h1
  | some x => rw [hx] at h1; exact ⟨x, rfl, by simpa using h1⟩

theorem findS {s q : Nat} {v0 v1 v2 v3 : Value} {w w' : World} (hk : Kept w w') (h : w.cell? ⟨s, 0, none⟩ = some v0 ∧ w.cell? ⟨q, 1, none⟩ = some v1 ∧ w.cell? ⟨q, 2, none⟩ = some v2 ∧ w.cell? ⟨q, 3, none⟩ = some v3) :
    w'.cell? ⟨s, 0, none⟩ = some v0 ∧ w'.cell? ⟨q, 1, none⟩ = some v1 ∧ w'.cell? ⟨q, 2, none⟩ = some v2 ∧ w'.cell? ⟨q, 3, none⟩ = some v3 := by
  obtain ⟨h0, h1, h2, h3⟩ := h
  have l0 := World.block_lt_of_cell? w _ h0
  have l1 := World.block_lt_of_cell? w _ h1
  exact ⟨(hk.cell l0).trans h0, (hk.cell (p := ⟨q, 1, none⟩) l1).trans h1, (hk.cell (p := ⟨q, 2, none⟩) l1).trans h2, (hk.cell (p := ⟨q, 3, none⟩) l1).trans h3⟩

/-- there is no such key -/
theorem findno_any (s d b m : Nat) (S : Sc) (key : ByteArray) (w : World) (h : IsSc w s d b m S) (hm : m ≤ 1000000) (hf : findP S key = none) :
    Calls Tryd.prog 11 #[.pointer (some ⟨s, 0, none⟩), .string key] w fun e w' => e = .returned (.tuple #[.string ⟨#[]⟩, .bool false]) ∧ Kept w w' := by
  have hc := find_any s d b m S key w h hm
  rw [hf] at hc
  simp only [foundV] at hc
  have HC := Lib.hid hc
  clear hc h
  go_enter Tryd.func11, Tryd.ntmps11
  go_wp2_with fail
  refine HC.out.mono ?_
  rintro e w1 ⟨rfl, hk⟩
  go_wp2
  refine bodyPost_ret (v := .tuple #[.string ⟨#[]⟩, .bool false]) (by simp [results, Tryd.results11, go_sem]) rfl ⟨rfl, hk⟩

set_option maxRecDepth 100000 in
set_option maxHeartbeats 4000000 in
theorem findok_any (R : List Int) (s d b m p : Nat) (S : Sc) (D : Dv) (F : List Nat) (key : ByteArray) (x : En) (w : World) (hR : Roots w R) (h : IsSc w s d b m S) (hd : Devs w d D F) (hm : m ≤ 1000000) (hf : findP S key = some p) (hx : S.M p = some x)
    (hv : D.valid 1 x.at') (hl : D.lost 1 = false) (hws : D.ws.length ≤ 1000000000) (hsz : (D.get 1 x.at').size = x.len) (hsum : sumOf R (D.get 1 x.at') = x.sum) :
    Calls Tryd.prog 11 #[.pointer (some ⟨s, 0, none⟩), .string key] w fun e w' => e = .returned (.tuple #[.string (D.get 1 x.at'), .bool true]) ∧ Kept w w' := by
  have hc := find_any s d b m S key w h hm
  rw [hf] at hc
  simp only [foundV] at hc
  have hpr := (h.okm p x hx).1
  have hlen := (h.okm p x hx).2.2.2.2.1
  have hp4 : p ≤ 1000 := by have := h.okn; unfold roomN at hpr; omega
  have HC := Lib.hid hc
  have H := Lib.hid h
  have HD := Lib.hid hd
  have HR := Lib.hid hR
  have HX := Lib.hid hx
  have HV := Lib.hid hv
  have HL := Lib.hid hl
  obtain ⟨t, ht⟩ : ∃ t, D.get 1 x.at' = t := ⟨_, rfl⟩
  rw [ht] at hsz hsum ⊢
  have HT := Lib.hid ht
  have HSZ := Lib.hid hsz
  have HSUM := Lib.hid hsum
  clear hc h hd hR hx hv hl ht hsz hsum hf
  go_enter Tryd.func11, Tryd.ntmps11
  go_wp2_with fail
  refine HC.out.mono ?_
  rintro e w1 ⟨rfl, hk⟩
  have h1 := H.out.kept hk
  have c0 := h1.c0
  have c3 := h1.c3
  have hlook := h1.mp.look Tryd.underlying53 (Tryd.zeroValue69 w1) (k := (p : Int)) (by unfold Wf; omega)
  rw [mapV_nat, HX.out] at hlook
  simp only [Option.map_some, Option.getD_some, enV, enCells] at hlook
  have hslt := lt_blk h1.blk
  have HK := Lib.hid hk
  have H1 := Lib.hid h1
  clear hk h1 HC
  go_wp2_with fail
  obtain ⟨q, hq⟩ : ∃ q, w1.heap.size = q := ⟨_, rfl⟩
  obtain ⟨w2, hw2⟩ : ∃ w2, w1.alloc (.cells #[.string x.key, .string x.sum, .int .i64 x.len, .int .i64 x.at'] 69) = w2 := ⟨_, rfl⟩
  have hb2 : w2.heap[q]? = some (.cells #[.string x.key, .string x.sum, .int .i64 x.len, .int .i64 x.at'] 69 (0, 0)) := by rw [← hw2, ← hq]; exact heap_alloc_new' _ _
  have hk2 : Kept w1 w2 := by rw [← hw2]; exact (by repeat (first | exact Below.refl _ _ | assumption | refine Below.drewN ?_ _ | refine Below.drew ?_ | (refine Below.alloc' _ ?_ ?_; (focus ((first | omega | (simp; done) | (simp; omega))))) | (refine Below.setCell' _ ?_ ?_; (focus ((first | omega | (simp; done) | (simp; omega)))))))
  rw [hw2, hq]
  have hkd : Kept w2 w2.drew := (Below.refl _ _).drew
  have hS := findS hkd (s := s) (q := q) ⟨(hk2.cell hslt).trans c0, by rw [cell_blk hb2]; rfl, by rw [cell_blk hb2]; rfl, by rw [cell_blk hb2]; rfl⟩
  have hd2 : Devs w2.drew d D F := (HD.out.kept (Kept.trans HK.out hk2)).kept hkd
  have hrd := Lib.hid (read_ok d D F 1 x.at' w2.drew hd2 HV.out HL.out hws)
  have HK2 := Lib.hid (Kept.trans HK.out (Kept.trans hk2 hkd))
  clear hw2 hb2 hk2 hkd hd2 hlook c0 c3 hq
  go_region_held3 (fun w' => w'.cell? ⟨s, 0, none⟩ = some (.pointer (some ⟨d, 0, none⟩)) ∧ w'.cell? ⟨q, 1, none⟩ = some (.string x.sum) ∧ w'.cell? ⟨q, 2, none⟩ = some (.int .i64 x.len) ∧ w'.cell? ⟨q, 3, none⟩ = some (.int .i64 x.at')) (first | assumption | exact findS (by assumption) (by assumption))
    ((go_at_call 14; refine hrd.out.mono ?_; rintro e w' ⟨rfl, hk⟩))
  rw [HT.out]
  have hHeld : w'.cell? ⟨s, 0, none⟩ = some (.pointer (some ⟨d, 0, none⟩)) ∧ w'.cell? ⟨q, 1, none⟩ = some (.string x.sum) ∧ w'.cell? ⟨q, 2, none⟩ = some (.int .i64 x.len) ∧ w'.cell? ⟨q, 3, none⟩ = some (.int .i64 x.at') := by assumption
  have hkd : Kept w' w'.drew := (Below.refl _ _).drew
  have hS2 := findS hkd hHeld
  have hK3 : Kept w w'.drew := Kept.trans HK2.out (Kept.trans hk hkd)
  have hcs0 := sumof_any R t w'.drew (HR.out.kept hK3) (by rw [HSZ.out]; omega)
  rw [HSUM.out] at hcs0
  have hcs := Lib.hid hcs0
  clear hcs0
  have HK3 := Lib.hid hK3
  have hsz := HSZ.out
  clear hK3 hHeld
  go_wp2_with fail
  go_region_held3 (fun w'' => w''.cell? ⟨s, 0, none⟩ = some (.pointer (some ⟨d, 0, none⟩)) ∧ w''.cell? ⟨q, 1, none⟩ = some (.string x.sum) ∧ w''.cell? ⟨q, 2, none⟩ = some (.int .i64 x.len) ∧ w''.cell? ⟨q, 3, none⟩ = some (.int .i64 x.at')) (first | assumption | exact findS (by assumption) (by assumption))
    ((go_at_call 23; refine hcs.out.mono ?_; rintro e w5 ⟨rfl, hk5⟩))
  have hkf := Kept.trans HK3.out hk5
  have HKF := Lib.hid hkf
  clear hkf
  go_wp2
  refine bodyPost_ret (v := .tuple #[.string t, .bool true]) (by simp [results, Tryd.results11, go_sem]) rfl ⟨rfl, HKF.out⟩
end Go.Proofs.YtbhokalnkfdekaaDoor
