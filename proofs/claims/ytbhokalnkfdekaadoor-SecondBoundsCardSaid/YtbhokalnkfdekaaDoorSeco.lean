/- Package second: Find, where what lies there is not what was kept. -/
import Derived.Test.YtbhokalnkfdekaaDoorSecn
namespace Go.Proofs.YtbhokalnkfdekaaDoor
open Go.RowKit
open Go.Proofs Go.Shelf Go.Maps

theorem drop_u {R : List Int} {w : World} {s d b m : Nat} {S : Sc} {D : Dv} {F : List Nat} (h : Cach R w s d b m S D F) (p : Nat) (hp : p ≤ 1000000) (ty : TypeId) :
    ∃ w', (Builtin.delete_ #[53, 3] ty #[.map (some b), .int .i64 p]).run Tryd.prog w = .ok (.tuple #[]) w' ∧ Cach R w' s d b m { S with M := dropM S.M p } D F ∧ Upd [b] w [b] w' := by
  obtain ⟨w', hrun, hm, ht⟩ := h.sc.mp.drop Tryd.underlying53 (k := (p : Int)) (by unfold Wf; omega) ty
  rw [mapV_drop] at hm
  refine ⟨w', hrun, h.map hm (turned_upd ht) (fun q x hx => h.sc.okm q x ?_), turned_upd ht⟩
  unfold dropM at hx; split at hx
  · cases hx
  · exact hx

theorem may_zero {D : Dv} {a b : Int} (h : D.may a b 0 = 0) : D.valid a b ∧ D.lost a = false := by
  unfold Dv.may at h
  split at h
  · rename_i hv
    split at h
    · cases h
    · rename_i hl; exact ⟨hv.1, by simpa using hl⟩
  · cases h

set_option maxRecDepth 100000 in
set_option maxHeartbeats 4000000 in
theorem findgone_any (R : List Int) (s d b m p : Nat) (S : Sc) (D : Dv) (F : List Nat) (key : ByteArray) (x : En) (w : World) (h : Cach R w s d b m S D F) (hm : m ≤ 1000000) (hf : findP S key = some p) (hx : S.M p = some x) (hc : D.may 1 x.at' 0 ≠ 0) :
    Calls Tryd.prog 11 #[.pointer (some ⟨s, 0, none⟩), .string key] w fun e w' => e = .returned (.tuple #[.string ⟨#[]⟩, .bool false]) ∧ Cach R w' s d b m { S with M := dropM S.M p } D F ∧ Upd [b] w [b] w' := by
    have hc0 := find_any s d b m S key w h.sc hm
    rw [hf] at hc0
    simp only [foundV] at hc0
    have hpr := (h.sc.okm p x hx).1
    have hp4 : p ≤ 1000 := by have := h.sc.okn; unfold roomN at hpr; omega
    have HC := Lib.hid hc0
    have H := Lib.hid h
    have HX := Lib.hid hx
    clear hc0 h hx hf
    go_enter Tryd.func11, Tryd.ntmps11
    go_wp2_with fail
    refine HC.out.mono ?_
    rintro e w1 ⟨rfl, hk⟩
    have h1 := H.out.kept hk
    have c0 := h1.sc.c0
    have c3 := h1.sc.c3
    have hlook := h1.sc.mp.look Tryd.underlying53 (Tryd.zeroValue69 w1) (k := (p : Int)) (by unfold Wf; omega)
    rw [mapV_nat, HX.out] at hlook
    simp only [Option.map_some, Option.getD_some, enV, enCells] at hlook
    have hslt := lt_blk h1.sc.blk
    have HK := Lib.hid hk
    have H1 := Lib.hid h1
    clear hk h1 HC
    go_wp2_with fail
    obtain ⟨q, hq⟩ : ∃ q, w1.heap.size = q := ⟨_, rfl⟩
    obtain ⟨w2, hw2⟩ : ∃ w2, w1.alloc (.cells #[.string x.key, .string x.sum, .int .i64 x.len, .int .i64 x.at'] 69) = w2 := ⟨_, rfl⟩
    have hb2 : w2.heap[q]? = some (.cells #[.string x.key, .string x.sum, .int .i64 x.len, .int .i64 x.at'] 69 (0, 0)) := by rw [← hw2, ← hq]; exact heap_alloc_new' _ _
    have hk2 : Kept w1 w2 := by rw [← hw2]; exact (by repeat (first | exact Below.refl _ _ | assumption | refine Below.drewN ?_ _ | refine Below.drew ?_ | (refine Below.alloc' _ ?_ ?_; (focus ((first | omega | (simp; done) | (simp; omega))))) | (refine Below.setCell' _ ?_ ?_; (focus ((first | omega | (simp; done) | (simp; omega)))))))
    rw [hw2, hq]
    have hkd : Kept w2 w2.drew := (Below.refl _ _).drew
    have hS := findS hkd (s := s) (q := q) ⟨(hk2.cell hslt).trans c0, by rw [cell_blk hb2]; rfl, by rw [cell_blk hb2]; rfl, by rw [cell_blk hb2]; rfl⟩
    have hd2 : Devs w2.drew d D F := (H1.out.dv.kept hk2).kept hkd
    have HK2 := Lib.hid (Kept.trans HK.out (Kept.trans hk2 hkd))
    obtain ⟨c, hcc⟩ : ∃ c, D.may 1 x.at' 0 = c := ⟨_, rfl⟩
    have hcn : (c == 0) = false := by rw [← hcc]; simpa using hc
    have HCC := Lib.hid hcc
    have hrd := Lib.hid (read_bad d D F 1 x.at' w2.drew hd2 hc)
    clear hw2 hb2 hk2 hkd hd2 hlook c0 c3 hq hc hcc
    go_region_held3 (fun w' => w'.cell? ⟨s, 0, none⟩ = some (.pointer (some ⟨d, 0, none⟩)) ∧ w'.cell? ⟨q, 1, none⟩ = some (.string x.sum) ∧ w'.cell? ⟨q, 2, none⟩ = some (.int .i64 x.len) ∧ w'.cell? ⟨q, 3, none⟩ = some (.int .i64 x.at')) (first | assumption | exact findS (by assumption) (by assumption))
      ((go_at_call 14; refine hrd.out.mono ?_; rintro e w' ⟨rfl, hk⟩))
    rw [HCC.out]
    have hHeld : w'.cell? ⟨s, 0, none⟩ = some (.pointer (some ⟨d, 0, none⟩)) ∧ w'.cell? ⟨q, 1, none⟩ = some (.string x.sum) ∧ w'.cell? ⟨q, 2, none⟩ = some (.int .i64 x.len) ∧ w'.cell? ⟨q, 3, none⟩ = some (.int .i64 x.at') := by assumption
    obtain ⟨y0, y1, y2, y3⟩ := hHeld
    have hK3 : ∀ nq, Kept w (w'.drewN nq) := fun nq => Kept.trans HK2.out (Kept.trans hk (Below.drewN (Below.refl _ _) nq))
    obtain ⟨f4, hf4⟩ := Classical.axiomOfChoice (fun nq => drop_u (H.out.kept (hK3 nq)) p (by omega) 0)
    have hrun := fun nq => (hf4 nq).1
    have c3 : w'.cell? ⟨s, 3, none⟩ = some (.map (some b)) := (H.out.kept (hK3 0)).sc.c3
    have HF := Lib.hid hf4
    have HK3 := Lib.hid hK3
    clear hK3 hf4 hk
    go_wp2_with fail
    go_quiet (fail)
    go_wp2
    refine bodyPost_ret (v := .tuple #[.string ⟨#[]⟩, .bool false]) (by simp [results, Tryd.results11, go_sem]) rfl ⟨rfl, (HF.out _).2.1, (Kept.upd (HK3.out _)).trans (HF.out _).2.2⟩

set_option maxRecDepth 100000 in
set_option maxHeartbeats 4000000 in
theorem findlen_any (R : List Int) (s d b m p : Nat) (S : Sc) (D : Dv) (F : List Nat) (key : ByteArray) (x : En) (w : World) (h : Cach R w s d b m S D F) (hm : m ≤ 1000000) (hf : findP S key = some p) (hx : S.M p = some x) (hmay : D.may 1 x.at' 0 = 0) (hws : D.ws.length ≤ 1000000000) (hsz : (D.get 1 x.at').size ≠ x.len) :
    Calls Tryd.prog 11 #[.pointer (some ⟨s, 0, none⟩), .string key] w fun e w' => e = .returned (.tuple #[.string ⟨#[]⟩, .bool false]) ∧ Cach R w' s d b m { S with M := dropM S.M p } D F ∧ Upd [b] w [b] w' := by
    have hc0 := find_any s d b m S key w h.sc hm
    rw [hf] at hc0
    simp only [foundV] at hc0
    have hpr := (h.sc.okm p x hx).1
    have hp4 : p ≤ 1000 := by have := h.sc.okn; unfold roomN at hpr; omega
    have HC := Lib.hid hc0
    have H := Lib.hid h
    have HX := Lib.hid hx
    clear hc0 h hx hf
    go_enter Tryd.func11, Tryd.ntmps11
    go_wp2_with fail
    refine HC.out.mono ?_
    rintro e w1 ⟨rfl, hk⟩
    have h1 := H.out.kept hk
    have c0 := h1.sc.c0
    have c3 := h1.sc.c3
    have hlook := h1.sc.mp.look Tryd.underlying53 (Tryd.zeroValue69 w1) (k := (p : Int)) (by unfold Wf; omega)
    rw [mapV_nat, HX.out] at hlook
    simp only [Option.map_some, Option.getD_some, enV, enCells] at hlook
    have hslt := lt_blk h1.sc.blk
    have HK := Lib.hid hk
    have H1 := Lib.hid h1
    clear hk h1 HC
    go_wp2_with fail
    obtain ⟨q, hq⟩ : ∃ q, w1.heap.size = q := ⟨_, rfl⟩
    obtain ⟨w2, hw2⟩ : ∃ w2, w1.alloc (.cells #[.string x.key, .string x.sum, .int .i64 x.len, .int .i64 x.at'] 69) = w2 := ⟨_, rfl⟩
    have hb2 : w2.heap[q]? = some (.cells #[.string x.key, .string x.sum, .int .i64 x.len, .int .i64 x.at'] 69 (0, 0)) := by rw [← hw2, ← hq]; exact heap_alloc_new' _ _
    have hk2 : Kept w1 w2 := by rw [← hw2]; exact (by repeat (first | exact Below.refl _ _ | assumption | refine Below.drewN ?_ _ | refine Below.drew ?_ | (refine Below.alloc' _ ?_ ?_; (focus ((first | omega | (simp; done) | (simp; omega))))) | (refine Below.setCell' _ ?_ ?_; (focus ((first | omega | (simp; done) | (simp; omega)))))))
    rw [hw2, hq]
    have hkd : Kept w2 w2.drew := (Below.refl _ _).drew
    have hS := findS hkd (s := s) (q := q) ⟨(hk2.cell hslt).trans c0, by rw [cell_blk hb2]; rfl, by rw [cell_blk hb2]; rfl, by rw [cell_blk hb2]; rfl⟩
    have hd2 : Devs w2.drew d D F := (H1.out.dv.kept hk2).kept hkd
    have HK2 := Lib.hid (Kept.trans HK.out (Kept.trans hk2 hkd))
    obtain ⟨t, ht⟩ : ∃ t, D.get 1 x.at' = t := ⟨_, rfl⟩
    have hvl : D.valid 1 x.at' ∧ D.lost 1 = false := may_zero hmay
    have hrd := Lib.hid (read_ok d D F 1 x.at' w2.drew hd2 hvl.1 hvl.2 hws)
    rw [ht] at hsz
    have hszb : ((t.size : Int) == (x.len : Int)) = false := by simp; omega
    have HT := Lib.hid ht
    clear hw2 hb2 hk2 hkd hd2 hlook c0 c3 hq hmay ht hsz hvl
    go_region_held3 (fun w' => w'.cell? ⟨s, 0, none⟩ = some (.pointer (some ⟨d, 0, none⟩)) ∧ w'.cell? ⟨q, 1, none⟩ = some (.string x.sum) ∧ w'.cell? ⟨q, 2, none⟩ = some (.int .i64 x.len) ∧ w'.cell? ⟨q, 3, none⟩ = some (.int .i64 x.at')) (first | assumption | exact findS (by assumption) (by assumption))
      ((go_at_call 14; refine hrd.out.mono ?_; rintro e w' ⟨rfl, hk⟩))
    rw [HT.out]
    have hHeld : w'.cell? ⟨s, 0, none⟩ = some (.pointer (some ⟨d, 0, none⟩)) ∧ w'.cell? ⟨q, 1, none⟩ = some (.string x.sum) ∧ w'.cell? ⟨q, 2, none⟩ = some (.int .i64 x.len) ∧ w'.cell? ⟨q, 3, none⟩ = some (.int .i64 x.at') := by assumption
    obtain ⟨y0, y1, y2, y3⟩ := hHeld
    have hK3 : ∀ nq, Kept w (w'.drewN nq) := fun nq => Kept.trans HK2.out (Kept.trans hk (Below.drewN (Below.refl _ _) nq))
    obtain ⟨f4, hf4⟩ := Classical.axiomOfChoice (fun nq => drop_u (H.out.kept (hK3 nq)) p (by omega) 0)
    have hrun := fun nq => (hf4 nq).1
    have c3 : w'.cell? ⟨s, 3, none⟩ = some (.map (some b)) := (H.out.kept (hK3 0)).sc.c3
    have HF := Lib.hid hf4
    have HK3 := Lib.hid hK3
    clear hK3 hf4 hk
    go_wp2_with fail
    go_quiet (fail)
    go_wp2
    refine bodyPost_ret (v := .tuple #[.string ⟨#[]⟩, .bool false]) (by simp [results, Tryd.results11, go_sem]) rfl ⟨rfl, (HF.out _).2.1, (Kept.upd (HK3.out _)).trans (HF.out _).2.2⟩
end Go.Proofs.YtbhokalnkfdekaaDoor
