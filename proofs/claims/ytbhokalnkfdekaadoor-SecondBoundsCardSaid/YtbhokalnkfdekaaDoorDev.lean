/- Package dev: contracts. -/
import Derived.Test.YtbhokalnkfdekaaDoorBase
namespace Go.Proofs.YtbhokalnkfdekaaDoor
open Go.RowKit

theorem is_any (b : Nat) (n : Int) (w : World) :
    Calls Tryd.prog 26 #[.pointer (some ⟨b, 0, none⟩), .int .i64 n] w fun e w' => e = .returned (.bool (n == 0 || n == 1)) ∧ w' = w := by
  by_cases h0 : n = 0
  · subst h0
    go_enter Tryd.func26, Tryd.ntmps26
    go_wp2
    go_ret
    exact ⟨by simp, rfl⟩
  · have hb : (n == 0) = false := by simp [h0]
    by_cases h1 : n = 1
    · subst h1
      go_enter Tryd.func26, Tryd.ntmps26
      go_wp2
      go_ret
      exact ⟨by simp, rfl⟩
    · have hb1 : (n == 1) = false := by simp [h1]
      go_enter Tryd.func26, Tryd.ntmps26
      go_wp2
      go_ret
      exact ⟨by simp [hb, hb1], rfl⟩

theorem IsDevs.c0 {w : World} {d b0 b1 : Nat} {wv : Value} {D : Dv} (h : IsDevs w d b0 b1 wv D) : w.cell? ⟨d, 0, none⟩ = some (.slice (some ⟨b0, 0, none⟩) D.s0.length D.s0.length) := by rw [cell_blk h.blk]; rfl
theorem IsDevs.c1 {w : World} {d b0 b1 : Nat} {wv : Value} {D : Dv} (h : IsDevs w d b0 b1 wv D) : w.cell? ⟨d, 1, none⟩ = some (.slice (some ⟨b1, 0, none⟩) D.s1.length D.s1.length) := by rw [cell_blk h.blk]; rfl
theorem IsDevs.c2 {w : World} {d b0 b1 : Nat} {wv : Value} {D : Dv} (h : IsDevs w d b0 b1 wv D) : w.cell? ⟨d, 2, none⟩ = some (.bool D.l0) := by rw [cell_blk h.blk]; rfl
theorem IsDevs.c3 {w : World} {d b0 b1 : Nat} {wv : Value} {D : Dv} (h : IsDevs w d b0 b1 wv D) : w.cell? ⟨d, 3, none⟩ = some (.bool D.l1) := by rw [cell_blk h.blk]; rfl
theorem IsDevs.c4 {w : World} {d b0 b1 : Nat} {wv : Value} {D : Dv} (h : IsDevs w d b0 b1 wv D) : w.cell? ⟨d, 4, none⟩ = some wv := by rw [cell_blk h.blk]; rfl

set_option maxRecDepth 100000 in
set_option maxHeartbeats 1000000 in
theorem may_any (d : Nat) (D : Dv) (F : List Nat) (dev at' : Int) (s : ByteArray) (w : World) (hd : Devs w d D F) :
    Calls Tryd.prog 27 #[.pointer (some ⟨d, 0, none⟩), .agg #[.int .i64 dev, .int .i64 at'], .string s] w fun e w' => e = .returned (.int .i64 (D.may dev at' s.size)) ∧ Kept w w' := by
  obtain ⟨b0, b1, wv, hd, -⟩ := hd
  have c0 := hd.c0
  have c1 := hd.c1
  have c2 := hd.c2
  have c3 := hd.c3
  have hlt : d < w.heap.size := lt_blk hd.blk
  have hneq : d ≠ w.heap.size := by omega
  by_cases h0 : dev = 0 ∨ dev = 1
  · by_cases hs : (s.size : Int) ≤ 1024
    · by_cases ha : 0 ≤ at'
      · rcases h0 with rfl | rfl
        · by_cases hl : at' < D.s0.length
          · cases hlost : D.l0
            all_goals
              rw [hlost] at c2
              have hv : D.may 0 at' s.size = if D.l0 then 5 else 0 := by simp [Dv.may, Dv.valid, Dv.lost, ha, hl]; omega
              rw [hv, hlost]
              clear hd hv hlost
              go_enter Tryd.func27, Tryd.ntmps27
              go_wp2_with fail
              go_quiet ((go_at_call 26; exact Calls.quiet_of_same (is_any _ _ _)))
              go_wp2_with fail
              go_quiet ((fail))
              go_wp2
              go_ret
              exact ⟨rfl, (by repeat (first | exact Below.refl _ _ | assumption | refine Below.drewN ?_ _ | refine Below.drew ?_ | (refine Below.alloc' _ ?_ ?_; (focus ((first | omega | (simp; done) | (simp; omega))))) | (refine Below.setCell' _ ?_ ?_; (focus ((first | omega | (simp; done) | (simp; omega)))))))⟩
          · have hv : D.may 0 at' s.size = 1 := by simp [Dv.may, Dv.valid, hl]
            rw [hv]
            clear hd hv
            go_enter Tryd.func27, Tryd.ntmps27
            go_wp2_with fail
            go_quiet ((go_at_call 26; exact Calls.quiet_of_same (is_any _ _ _)))
            go_wp2
            go_ret
            exact ⟨rfl, (by repeat (first | exact Below.refl _ _ | assumption | refine Below.drewN ?_ _ | refine Below.drew ?_ | (refine Below.alloc' _ ?_ ?_; (focus ((first | omega | (simp; done) | (simp; omega))))) | (refine Below.setCell' _ ?_ ?_; (focus ((first | omega | (simp; done) | (simp; omega)))))))⟩
        · by_cases hl : at' < D.s1.length
          · cases hlost : D.l1
            all_goals
              rw [hlost] at c3
              have hv : D.may 1 at' s.size = if D.l1 then 5 else 0 := by simp [Dv.may, Dv.valid, Dv.lost, ha, hl]; omega
              rw [hv, hlost]
              clear hd hv hlost
              go_enter Tryd.func27, Tryd.ntmps27
              go_wp2_with fail
              go_quiet ((go_at_call 26; exact Calls.quiet_of_same (is_any _ _ _)))
              go_wp2_with fail
              go_quiet ((fail))
              go_wp2
              go_ret
              exact ⟨rfl, (by repeat (first | exact Below.refl _ _ | assumption | refine Below.drewN ?_ _ | refine Below.drew ?_ | (refine Below.alloc' _ ?_ ?_; (focus ((first | omega | (simp; done) | (simp; omega))))) | (refine Below.setCell' _ ?_ ?_; (focus ((first | omega | (simp; done) | (simp; omega)))))))⟩
          · have hv : D.may 1 at' s.size = 1 := by simp [Dv.may, Dv.valid, hl]
            rw [hv]
            clear hd hv
            go_enter Tryd.func27, Tryd.ntmps27
            go_wp2_with fail
            go_quiet ((go_at_call 26; exact Calls.quiet_of_same (is_any _ _ _)))
            go_wp2
            go_ret
            exact ⟨rfl, (by repeat (first | exact Below.refl _ _ | assumption | refine Below.drewN ?_ _ | refine Below.drew ?_ | (refine Below.alloc' _ ?_ ?_; (focus ((first | omega | (simp; done) | (simp; omega))))) | (refine Below.setCell' _ ?_ ?_; (focus ((first | omega | (simp; done) | (simp; omega)))))))⟩
      · have hv : D.may dev at' s.size = 1 := by simp [Dv.may, Dv.valid, ha]
        rw [hv]
        have hi : (dev == 0 || dev == 1) = true := by simpa using h0
        clear hd hv h0
        go_enter Tryd.func27, Tryd.ntmps27
        go_wp2_with fail
        go_quiet ((go_at_call 26; exact Calls.quiet_of_same (is_any _ _ _)))
        go_wp2
        go_ret
        exact ⟨rfl, (by repeat (first | exact Below.refl _ _ | assumption | refine Below.drewN ?_ _ | refine Below.drew ?_ | (refine Below.alloc' _ ?_ ?_; (focus ((first | omega | (simp; done) | (simp; omega))))) | (refine Below.setCell' _ ?_ ?_; (focus ((first | omega | (simp; done) | (simp; omega)))))))⟩
    · have hv : D.may dev at' s.size = 1 := by simp [Dv.may]; omega
      rw [hv]
      clear hv
      by_cases ha : 0 ≤ at'
      · rcases h0 with rfl | rfl
        · by_cases hl : at' < D.s0.length
          all_goals
            clear hd
            go_enter Tryd.func27, Tryd.ntmps27
            go_wp2_with fail
            go_quiet ((go_at_call 26; exact Calls.quiet_of_same (is_any _ _ _)))
            go_wp2
            go_ret
            exact ⟨rfl, (by repeat (first | exact Below.refl _ _ | assumption | refine Below.drewN ?_ _ | refine Below.drew ?_ | (refine Below.alloc' _ ?_ ?_; (focus ((first | omega | (simp; done) | (simp; omega))))) | (refine Below.setCell' _ ?_ ?_; (focus ((first | omega | (simp; done) | (simp; omega)))))))⟩
        · by_cases hl : at' < D.s1.length
          all_goals
            clear hd
            go_enter Tryd.func27, Tryd.ntmps27
            go_wp2_with fail
            go_quiet ((go_at_call 26; exact Calls.quiet_of_same (is_any _ _ _)))
            go_wp2
            go_ret
            exact ⟨rfl, (by repeat (first | exact Below.refl _ _ | assumption | refine Below.drewN ?_ _ | refine Below.drew ?_ | (refine Below.alloc' _ ?_ ?_; (focus ((first | omega | (simp; done) | (simp; omega))))) | (refine Below.setCell' _ ?_ ?_; (focus ((first | omega | (simp; done) | (simp; omega)))))))⟩
      · have hi : (dev == 0 || dev == 1) = true := by simpa using h0
        clear hd h0
        go_enter Tryd.func27, Tryd.ntmps27
        go_wp2_with fail
        go_quiet ((go_at_call 26; exact Calls.quiet_of_same (is_any _ _ _)))
        go_wp2
        go_ret
        exact ⟨rfl, (by repeat (first | exact Below.refl _ _ | assumption | refine Below.drewN ?_ _ | refine Below.drew ?_ | (refine Below.alloc' _ ?_ ?_; (focus ((first | omega | (simp; done) | (simp; omega))))) | (refine Below.setCell' _ ?_ ?_; (focus ((first | omega | (simp; done) | (simp; omega)))))))⟩
  · have hv : D.may dev at' s.size = 1 := by
      have : ¬ D.valid dev at' := by unfold Dv.valid; omega
      simp [Dv.may, this]
    rw [hv]
    have hi : (dev == 0 || dev == 1) = false := by simpa using h0
    clear hd hv h0
    go_enter Tryd.func27, Tryd.ntmps27
    go_wp2_with fail
    go_quiet ((go_at_call 26; exact Calls.quiet_of_same (is_any _ _ _)))
    go_wp2
    go_ret
    exact ⟨rfl, (by repeat (first | exact Below.refl _ _ | assumption | refine Below.drewN ?_ _ | refine Below.drew ?_ | (refine Below.alloc' _ ?_ ?_; (focus ((first | omega | (simp; done) | (simp; omega))))) | (refine Below.setCell' _ ?_ ?_; (focus ((first | omega | (simp; done) | (simp; omega)))))))⟩
end Go.Proofs.YtbhokalnkfdekaaDoor
