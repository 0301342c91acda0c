/- Package dev: Spoil, Lose where nothing waits. -/
import Derived.Test.YtbhokalnkfdekaaDoorDevf
namespace Go.Proofs.YtbhokalnkfdekaaDoor
open Go.RowKit

theorem indexfunc_empty (p : Option Addr) (c : Nat) (fv : Value) (w : World) :
    Calls Tryd.prog 61 #[.slice p 0 c, fv] w fun e w' => e = .returned (.int .i64 (-1)) ∧ w' = w := by
  go_enter Tryd.func61, Tryd.ntmps61
  go_wp2
  refine wp_loop_once ?_
  go_wp2
  go_ret
  exact ⟨rfl, rfl⟩

theorem deletefunc_empty (p : Option Addr) (c : Nat) (fv : Value) (w : World) :
    Calls Tryd.prog 43 #[.slice p 0 c, fv] w fun e w' => e = .returned (.slice p 0 c) ∧ w' = w := by
  go_enter Tryd.func43, Tryd.ntmps43
  go_wp2_with (go_at_call 61; refine (indexfunc_empty _ _ _ _).mono ?_; rintro e w' ⟨rfl, rfl⟩)
  go_ret
  exact ⟨rfl, rfl⟩

theorem forget_empty (d : Nat) (p : Option Addr) (c : Nat) (fv : Value) (w : World) (hc : w.cell? ⟨d, 4, none⟩ = some (.slice p 0 c)) (hf : w.frozen? ⟨d, 4, none⟩ = false) :
    Calls Tryd.prog 29 #[.pointer (some ⟨d, 0, none⟩), fv] w fun e w' => e = .returned (.tuple #[]) ∧ w' = w.setCell ⟨d, 4, none⟩ (.slice p 0 c) := by
  go_enter Tryd.func29, Tryd.ntmps29
  go_wp2_with (go_at_call 43; refine (deletefunc_empty _ _ _ _).mono ?_; rintro e w' ⟨rfl, rfl⟩)
  go_end0
  exact ⟨rfl, rfl⟩

theorem setCell_same_heap {w : World} {b o : Nat} {v : Value} {cs : Array Value} {t : TypeId} {f : Nat × Nat} (h : w.heap[b]? = some (.cells cs t f)) (hv : cs[o]? = some v) (k : Nat) : (w.setCell ⟨b, o, none⟩ v).heap[k]? = w.heap[k]? := by
  by_cases hk : k = b
  · subst hk
    rw [heap_set_eq _ _ _ _ h, h]
    have : cs.setIfInBounds o v = cs := by
      apply Array.ext
      · simp
      · intro i h1 h2
        rw [Array.getElem_setIfInBounds]
        split
        · rename_i e; subst e
          have := (Array.getElem?_eq_some_iff.1 hv).2
          exact this.symm
        · rfl
    rw [this]
  · exact heap_set_ne _ _ _ _ _ hk

theorem ws_empty {w : World} {wv : Value} (h : w.ownsRow 0 75 3 wv 0 []) : ∃ p c, wv = .slice p 0 c := by
  rcases h.2 with ⟨e, _⟩ | ⟨g, c, cur, e, _⟩
  · exact ⟨_, _, e⟩
  · exact ⟨_, _, e⟩

theorem spoil_bad (d : Nat) (D : Dv) (F : List Nat) (dev at' : Int) (s : ByteArray) (w : World) (hd : Devs w d D F) (hc : D.may dev at' s.size ≠ 0) :
    Calls Tryd.prog 15 #[.pointer (some ⟨d, 0, none⟩), .agg #[.int .i64 dev, .int .i64 at'], .string s] w fun e w' => e = .returned (.int .i64 (D.may dev at' s.size)) ∧ Kept w w' := by
  have hcb : (D.may dev at' s.size == 0) = false := by simpa using hc
  have hcm : (D.may dev at' s.size != 0) = true := by simpa using hc
  have HD := Lib.hid hd
  clear hd hc
  go_enter Tryd.func15, Tryd.ntmps15
  go_wp2_with fail
  refine (may_any d D F dev at' _ _ (HD.out.kept (by repeat (first | exact Below.refl _ _ | assumption | refine Below.drewN ?_ _ | refine Below.drew ?_ | (refine Below.alloc' _ ?_ ?_; (focus ((first | omega | (simp; done) | (simp; omega))))) | (refine Below.setCell' _ ?_ ?_; (focus ((first | omega | (simp; done) | (simp; omega))))))))).mono ?_
  rintro e w1 ⟨rfl, hk⟩
  have HK := Lib.hid (Kept.trans (by repeat (first | exact Below.refl _ _ | assumption | refine Below.drewN ?_ _ | refine Below.drew ?_ | (refine Below.alloc' _ ?_ ?_; (focus ((first | omega | (simp; done) | (simp; omega))))) | (refine Below.setCell' _ ?_ ?_; (focus ((first | omega | (simp; done) | (simp; omega))))))) hk : Kept w w1)
  clear hk
  go_wp2
  go_ret
  exact ⟨rfl, HK.out⟩

set_option maxRecDepth 100000 in
set_option maxHeartbeats 1000000 in
theorem spoil_empty (d : Nat) (D : Dv) (F : List Nat) (dev at' : Int) (s : ByteArray) (w : World) (hd : Devs w d D F) (hm : D.may dev at' s.size = 0) (hws : D.ws = []) :
    Calls Tryd.prog 15 #[.pointer (some ⟨d, 0, none⟩), .agg #[.int .i64 dev, .int .i64 at'], .string s] w fun e w' => e = .returned (.int .i64 0) ∧ Devs w' d (D.put (dev, at', s)) F ∧ Upd F w F w' := by
  have hvs : D.valid dev at' ∧ s.size ≤ 1024 := by
    by_cases h : D.valid dev at' ∧ s.size ≤ 1024
    · exact h
    · rw [Dv.may, if_neg h] at hm; exact absurd hm (by decide)
  have hd' := hd
  obtain ⟨b0, b1, wv, hI, rfl⟩ := hd
  obtain ⟨p, c, rfl⟩ : ∃ p c, wv = .slice p 0 c := by
    have := hI.wait; rw [hws] at this; exact ws_empty this
  have hdl := lt_blk hI.blk
  have c4 := hI.c4
  have f4 := frozen_blk (o := 4) hI.blk
  have HD := Lib.hid hd'
  have HI := Lib.hid hI
  have HM := Lib.hid hm
  have HV := Lib.hid hvs
  clear hd' hI hm hvs hws
  go_enter Tryd.func15, Tryd.ntmps15
  go_wp2_with fail
  have hA := alloc1 w (.cells #[.int .i64 dev, .int .i64 at'] 42)
  refine (may_any d D _ dev at' _ _ (HD.out.kept hA.2.1)).mono ?_
  rintro e w1 ⟨rfl, hk⟩
  obtain ⟨a3, hA1, hA2⟩ := hA
  have HK := Lib.hid (hA1.trans hk : Kept w w1)
  have hz := hk.size
  rw [hA2] at hz
  have q3 := ((hk.heap (k := w.heap.size) (by omega)).trans a3)
  have y0 : w1.cell? ⟨w.heap.size, 0, none⟩ = some (.int .i64 dev) := by rw [cell_blk q3]; rfl
  have y1 : w1.cell? ⟨w.heap.size, 1, none⟩ = some (.int .i64 at') := by rw [cell_blk q3]; rfl
  have d4 := (Below.cell HK.out (p := ⟨d, 4, none⟩) hdl).trans c4
  have g4 := (Below.frozen HK.out (p := ⟨d, 4, none⟩) hdl).trans f4
  have hI1 := HI.out.kept HK.out
  have HI1 := Lib.hid hI1
  clear hk a3 hA1 hA2 q3 c4 f4 hI1
  rw [HM.out]
  have n1 : d ≠ w.heap.size := by omega
  go_wp2_with fail
  refine (forget_empty d p c _ w1 d4 g4).mono ?_
  rintro e w2 ⟨rfl, rfl⟩
  have hk2 : Kept w1 (w1.setCell ⟨d, 4, none⟩ (.slice p 0 c)) := ⟨rfl, rfl, rfl, by rw [size_set]; exact Nat.le_refl _, fun k _ => setCell_same_heap HI1.out.blk rfl k⟩
  have HK2 := Lib.hid hk2
  have hI2 := HI1.out.kept hk2
  have HI2 := Lib.hid hI2
  clear hk2 hI2
  go_wp2_with fail
  refine (put_any d b0 b1 _ D (dev, at', s) _ HI2.out HV.out.1 HV.out.2).mono ?_
  rintro e w3 ⟨rfl, hI3, hU3⟩
  have HI3 := Lib.hid hI3
  have HU3 := Lib.hid hU3
  clear hI3 hU3
  go_wp2
  go_ret
  refine ⟨rfl, ⟨b0, b1, _, HI3.out, rfl⟩, ?_⟩
  have h1 : Kept w _ := HK.out.trans HK2.out
  exact h1.upd.trans ((HU3.out.frame (d :: (Value.slice p 0 c).ownBlock.toList)).wide (by intro k; simp; rintro (h | h | h | h) <;> simp [h]) |>.sub (by intro k; simp; rintro (h | h | h | h) <;> simp [h]))
end Go.Proofs.YtbhokalnkfdekaaDoor
