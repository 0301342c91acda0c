/- Package sum: New, Write. -/
import Derived.Test.YtbhokalnkfdekaaDoorSum
import Derived.Deep.RegionWith
import Derived.Maps.RangeWalk
namespace Go.Proofs.YtbhokalnkfdekaaDoor
open Go.RowKit

def V8.iv : V8 := ⟨1779033703, 3144134277, 1013904242, 2773480762, 1359893119, 2600822924, 528734635, 1541459225⟩

theorem begin_any (w : World) : Calls Tryd.prog 57 #[] w fun e w' => e = .returned (.agg V8.iv.cells) ∧ Kept w w' := by
  go_enter Tryd.func57, Tryd.ntmps57
  go_wp2
  refine bodyPost_ret (v := .agg V8.iv.cells) ?_ rfl ⟨rfl, (by repeat (first | exact Below.refl _ _ | assumption | refine Below.drewN ?_ _ | refine Below.drew ?_ | (refine Below.alloc' _ ?_ ?_; (focus ((first | omega | (simp; done) | (simp; omega))))) | (refine Below.setCell' _ ?_ ?_; (focus ((first | omega | (simp; done) | (simp; omega)))))))⟩
  simp [results, Tryd.results57, go_sem, V8.cells, V8.iv]

/-- a writer in memory -/
def wrCells (v : V8) (rest : ByteArray) (n : Int) : Array Value := #[.int .u32 v.v0, .int .u32 v.v1, .int .u32 v.v2, .int .u32 v.v3, .int .u32 v.v4, .int .u32 v.v5, .int .u32 v.v6, .int .u32 v.v7, .string rest, .int .i64 n]

theorem wr_cells {w : World} {g : Nat} {v : V8} {rest : ByteArray} {n : Int} (h : w.heap[g]? = some (.cells (wrCells v rest n) 118)) :
    w.cell? ⟨g, 0, none⟩ = some (.int .u32 v.v0) ∧ w.cell? ⟨g, 1, none⟩ = some (.int .u32 v.v1) ∧ w.cell? ⟨g, 2, none⟩ = some (.int .u32 v.v2) ∧ w.cell? ⟨g, 3, none⟩ = some (.int .u32 v.v3) ∧ w.cell? ⟨g, 4, none⟩ = some (.int .u32 v.v4) ∧
    w.cell? ⟨g, 5, none⟩ = some (.int .u32 v.v5) ∧ w.cell? ⟨g, 6, none⟩ = some (.int .u32 v.v6) ∧ w.cell? ⟨g, 7, none⟩ = some (.int .u32 v.v7) ∧ w.cell? ⟨g, 8, none⟩ = some (.string rest) ∧ w.cell? ⟨g, 9, none⟩ = some (.int .i64 n) ∧ ∀ o, w.frozen? ⟨g, o, none⟩ = false :=
  ⟨by rw [cell_blk h]; rfl, by rw [cell_blk h]; rfl, by rw [cell_blk h]; rfl, by rw [cell_blk h]; rfl, by rw [cell_blk h]; rfl, by rw [cell_blk h]; rfl, by rw [cell_blk h]; rfl, by rw [cell_blk h]; rfl, by rw [cell_blk h]; rfl, by rw [cell_blk h]; rfl, fun o => frozen_blk h⟩

theorem sumnew_any (w : World) : Calls Tryd.prog 38 #[] w fun e w' => ∃ g, e = .returned (.pointer (some ⟨g, 0, none⟩)) ∧ w.heap.size ≤ g ∧ w'.heap[g]? = some (.cells (wrCells V8.iv ⟨#[]⟩ 0) 118) ∧ Kept w w' := by
  go_enter Tryd.func38, Tryd.ntmps38
  go_wp2_with fail
  refine (begin_any _).mono ?_
  rintro e w1 ⟨rfl, hk⟩
  have hz := hk.size
  have HK := Lib.hid hk
  clear hk
  simp only [V8.cells, V8.iv]
  go_wp2
  go_ret
  have hk := HK.out
  exact ⟨_, rfl, by omega, heap_alloc_new' _ _, (by repeat (first | exact Below.refl _ _ | assumption | refine Below.drewN ?_ _ | refine Below.drew ?_ | (refine Below.alloc' _ ?_ ?_; (focus ((first | omega | (simp; done) | (simp; omega))))) | (refine Below.setCell' _ ?_ ?_; (focus ((first | omega | (simp; done) | (simp; omega)))))))⟩

theorem set8w (W : World) (g : Nat) (v x : V8) (rest : ByteArray) (n : Int) (h : W.heap[g]? = some (.cells (wrCells v rest n) 118)) :
    ((((((((W.setCell ⟨g, 0, none⟩ (.int .u32 x.v0)).setCell ⟨g, 1, none⟩ (.int .u32 x.v1)).setCell ⟨g, 2, none⟩ (.int .u32 x.v2)).setCell ⟨g, 3, none⟩ (.int .u32 x.v3)).setCell ⟨g, 4, none⟩ (.int .u32 x.v4)).setCell ⟨g, 5, none⟩ (.int .u32 x.v5)).setCell ⟨g, 6, none⟩ (.int .u32 x.v6)).setCell ⟨g, 7, none⟩ (.int .u32 x.v7)).heap[g]? = some (.cells (wrCells x rest n) 118) ∧
    Upd [g] W [g] ((((((((W.setCell ⟨g, 0, none⟩ (.int .u32 x.v0)).setCell ⟨g, 1, none⟩ (.int .u32 x.v1)).setCell ⟨g, 2, none⟩ (.int .u32 x.v2)).setCell ⟨g, 3, none⟩ (.int .u32 x.v3)).setCell ⟨g, 4, none⟩ (.int .u32 x.v4)).setCell ⟨g, 5, none⟩ (.int .u32 x.v5)).setCell ⟨g, 6, none⟩ (.int .u32 x.v6)).setCell ⟨g, 7, none⟩ (.int .u32 x.v7)) := by
  have e0 := heap_set_eq W g 0 (.int .u32 x.v0) h
  have e1 := heap_set_eq _ g 1 (.int .u32 x.v1) e0
  have e2 := heap_set_eq _ g 2 (.int .u32 x.v2) e1
  have e3 := heap_set_eq _ g 3 (.int .u32 x.v3) e2
  have e4 := heap_set_eq _ g 4 (.int .u32 x.v4) e3
  have e5 := heap_set_eq _ g 5 (.int .u32 x.v5) e4
  have e6 := heap_set_eq _ g 6 (.int .u32 x.v6) e5
  have e7 := heap_set_eq _ g 7 (.int .u32 x.v7) e6
  refine ⟨e7.trans (by simp [wrCells]), ?_⟩
  exact ((((((((Upd.refl [g] W).setCell (p := ⟨g, 0, none⟩) (.inl (by simp)) _).setCell (p := ⟨g, 1, none⟩) (.inl (by simp)) _).setCell (p := ⟨g, 2, none⟩) (.inl (by simp)) _).setCell (p := ⟨g, 3, none⟩) (.inl (by simp)) _).setCell (p := ⟨g, 4, none⟩) (.inl (by simp)) _).setCell (p := ⟨g, 5, none⟩) (.inl (by simp)) _).setCell (p := ⟨g, 6, none⟩) (.inl (by simp)) _).setCell (p := ⟨g, 7, none⟩) (.inl (by simp)) _

/-- the length of a slot's text: for a measure -/
def strLen : Value → Nat | .string t => t.size | _ => 0

def absorb (R : List Int) : Nat → V8 → ByteArray → V8 × ByteArray
  | 0, v, s => (v, s)
  | k + 1, v, s => if 64 ≤ s.size then absorb R k (behindV R v (s.extract 0 64)) (s.extract 64 s.size) else (v, s)

theorem absorb_fuel (R : List Int) : ∀ (k k' : Nat) (v : V8) (s : ByteArray), s.size ≤ k → s.size ≤ k' → absorb R k v s = absorb R k' v s := by
  intro k
  induction k with
  | zero =>
    intro k' v s h _
    cases k' with
    | zero => rfl
    | succ k' => simp only [absorb]; rw [if_neg (by omega)]
  | succ k ih =>
    intro k' v s h h'
    cases k' with
    | zero => simp only [absorb]; rw [if_neg (by omega)]
    | succ k' =>
      simp only [absorb]
      by_cases h64 : 64 ≤ s.size
      · rw [if_pos h64, if_pos h64]
        have : (s.extract 64 s.size).size = s.size - 64 := by simp
        exact ih k' _ _ (by omega) (by omega)
      · rw [if_neg h64, if_neg h64]

set_option maxRecDepth 100000 in
set_option maxHeartbeats 4000000 in
theorem sumwrite_any (R : List Int) (g : Nat) (v : V8) (rest s : ByteArray) (n : Int) (w : World) (hR : Roots w R) (hg0 : g ≠ 0) (hg : w.heap[g]? = some (.cells (wrCells v rest n) 118)) (hn0 : 0 ≤ n) (hn : n ≤ 1000000000) (hs : s.size ≤ 1000000000) (hr : rest.size ≤ 1000000000) :
    Calls Tryd.prog 39 #[.pointer (some ⟨g, 0, none⟩), .string s] w fun e w' => e = .returned (.tuple #[]) ∧
      w'.heap[g]? = some (.cells (wrCells (absorb R (rest.size + s.size) v (rest ++ s)).1 (absorb R (rest.size + s.size) v (rest ++ s)).2 (n + s.size)) 118) ∧ Upd [g] w [g] w' := by
  have p8 : w.cell? ⟨g, 8, none⟩ = some (.string rest) := by rw [cell_blk hg]; rfl
  have p9 : w.cell? ⟨g, 9, none⟩ = some (.int .i64 n) := by rw [cell_blk hg]; rfl
  have fz : ∀ o, w.frozen? ⟨g, o, none⟩ = false := fun o => frozen_blk hg
  have HG := Lib.hid hg
  have HR := Lib.hid hR
  have HG0 := Lib.hid hg0
  clear hg hR hg0
  go_enter Tryd.func39, Tryd.ntmps39
  go_wp2
  obtain ⟨tot, htot⟩ : ∃ t, rest ++ s = t := ⟨_, rfl⟩
  have htz : tot.size = rest.size + s.size := by rw [← htot]; simp
  obtain ⟨W, hW⟩ : ∃ W, w.setCell ⟨g, 9, none⟩ (.int .i64 (n + s.size)) = W := ⟨_, rfl⟩
  have hgW : W.heap[g]? = some (.cells (wrCells v rest (n + s.size)) 118) := by rw [← hW, heap_set_eq _ _ _ _ HG.out]; rfl
  have hUW : Upd [g] w [g] W := by rw [← hW]; exact (Upd.refl _ _).setCell (.inl (by simp)) _
  rw [htot, hW]
  have hRW : Roots W R := HR.out.heap (hUW.heap HR.out.lt (by simp; exact fun e => HG0.out e.symm))
  have HGW := Lib.hid hgW
  have HUW := Lib.hid hUW
  have HRW := Lib.hid hRW
  have HT := Lib.hid htot
  clear hgW hUW hW hRW htot p8 p9 fz
  have htl : tot.size ≤ 2000000000 := by omega
  clear htz
  go_loopw [1] (fun s1 wr => ∃ (t : ByteArray) (v' : V8), s1 = .string t ∧ t.size ≤ 2000000000 ∧ wr.heap[g]? = some (.cells (wrCells v' rest (n + s.size)) 118) ∧ absorb R t.size v' t = absorb R tot.size v tot ∧ Upd [g] w [g] wr)
    (fun s1 _ => strLen s1)
  case atStart => exact ⟨tot, v, rfl, htl, HGW.out, rfl, HUW.out⟩
  case round =>
    obtain ⟨t, v', rfl, htl2, hq, hab, hu⟩ := hrel
    have hRr : Roots wr R := HR.out.heap (hu.heap HR.out.lt (by simp; exact fun e => HG0.out e.symm))
    obtain ⟨p0, p1, p2, p3, p4, p5, p6, p7, p8, p9, fz⟩ := wr_cells hq
    have HQ := Lib.hid hq
    have HU := Lib.hid hu
    have HA := Lib.hid hab
    have HRr := Lib.hid hRr
    clear hq hu hab hRr
    by_cases h64 : (64 : Int) ≤ t.size
    · have hglt : g < wr.heap.size := lt_blk HQ.out
      have hex : (t.extract 0 64).size = 64 := by simp; omega
      have hc := behind_any R v' (t.extract 0 64) hex wr.drew (fun i hi => HRr.out i hi)
      simp only [V8.cells] at hc
      have HC := Lib.hid hc
      clear hc
      go_wp2_with fail
      go_region_with (go_at_call 58; refine HC.out.mono ?_; rintro e w' ⟨rfl, hk⟩; (obtain ⟨k0, k1, k2, k3, k4, k5, k6, k7, k8, k9, kf⟩ := wr_cells ((hk.heap (lt_blk HQ.out)).trans HQ.out)); (have HK := Lib.hid hk); clear hk)
      simp only [List.getElem_toArray, List.getElem_cons_zero, List.getElem_cons_succ, Act.put, List.setIfInBounds_toArray, List.set_cons_succ, List.set_cons_zero]
      go_wp2
      have e8 := set8w w' g v' (behindV R v' (t.extract 0 64)) rest (n + s.size) ((HK.out.heap (lt_blk HQ.out)).trans HQ.out)
      have hu2 : Upd [g] w [g] w' := HU.out.trans (Kept.upd (Below.trans (Below.drew (Below.refl _ _)) HK.out))
      have hsz : (t.extract 64 t.size).size = t.size - 64 := by simp
      have hab : absorb R (t.extract 64 t.size).size (behindV R v' (t.extract 0 64)) (t.extract 64 t.size) = absorb R tot.size v tot := by
        rw [← HA.out]
        obtain ⟨m, hm⟩ : ∃ m, t.size = m + 1 := ⟨t.size - 1, by omega⟩
        rw [show absorb R t.size v' t = absorb R (m + 1) v' t by rw [hm]]
        simp only [absorb]
        rw [if_pos (by omega)]
        exact absorb_fuel R _ _ _ _ (Nat.le_refl _) (by omega)
      go_roundw
      case rel => exact ⟨t.extract 64 t.size, _, rfl, by omega, e8.1, hab, hu2.trans e8.2⟩
      case measure => simp [strLen]; omega
    · have hab : absorb R t.size v' t = (v', t) := by
        cases hz : t.size with
        | zero => rfl
        | succ m => simp only [absorb]; rw [if_neg (by omega)]
      go_wp2
      go_end0
      have e : absorb R (rest.size + s.size) v (rest ++ s) = (v', t) := by
        have h1 := HA.out
        rw [hab] at h1
        rw [← ByteArray.size_append, HT.out, ← h1]
      rw [e]
      refine ⟨rfl, ?_, HU.out.setCell (p := ⟨g, 8, none⟩) (.inl (by simp)) _⟩
      rw [heap_set_eq _ _ _ _ HQ.out]; rfl
end Go.Proofs.YtbhokalnkfdekaaDoor
