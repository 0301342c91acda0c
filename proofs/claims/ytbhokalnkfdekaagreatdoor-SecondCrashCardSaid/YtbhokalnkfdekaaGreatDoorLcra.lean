/- What a crash leaves of a cache. -/
import Derived.Test.YtbhokalnkfdekaaGreatDoorLive
import Derived.Test.YtbhokalnkfdekaaGreatDoorLawc
import Derived.Test.YtbhokalnkfdekaaGreatDoorDevx
namespace Go.Proofs.YtbhokalnkfdekaaGreatDoor
open Go.RowKit
open Go.Proofs Go.Maps

theorem crash_any2 (d : Nat) (D : Dv) (F : List Nat) (keep : List Bool) (v : Value) (w : World) (h : Devs w d D F) (hk : Bools w v keep) (hl : keep.length ≤ 1000000) (hap : keep ≠ [] → ∀ a n cap, v = .slice (some a) n cap → a.block ∉ F) :
    Calls Tryz.prog 14 #[.pointer (some ⟨d, 0, none⟩), v] w fun e w' => e = .returned (.int .i64 0) ∧ ∃ F', Devs w' d (D.crash keep) F' ∧ Upd F w F' w' := by
  have hF := h.lt
  obtain ⟨pv, nv, cv, rfl⟩ : ∃ p n cap, v = .slice p n cap := by
    rcases hk with ⟨_, p, cap, e⟩ | ⟨kb, ko, cap, e, _⟩
    · exact ⟨_, _, _, e⟩
    · exact ⟨_, _, _, e⟩
  obtain ⟨b0, b1, wv, h, rfl⟩ := h
  have hb0 := hF b0 (by simp)
  have hb1 := hF b1 (by simp)
  have hW : IsDevs (w.alloc (.cells #[.slice pv nv cv] 23)) d b0 b1 wv D := h.kept (by repeat (first | exact Below.refl _ _ | assumption | refine Below.drewN ?_ _ | refine Below.drew ?_ | (refine Below.alloc' _ ?_ ?_; (focus ((first | omega | (simp; done) | (simp; omega))))) | (refine Below.setCell' _ ?_ ?_; (focus ((first | omega | (simp; done) | (simp; omega)))))))
  have hc := done_crash w.heap.size d b0 b1 wv D _ hW (keepB keep) _ rfl (fun W hW i => by
    have hne : w.heap.size ∉ [b0, b1] := by simp; omega
    have e := hW.heap (k := w.heap.size) (by simp) hne
    rw [heap_alloc_new'] at e
    have ec : W.cell? ⟨w.heap.size, 0, none⟩ = some (.slice pv nv cv) := by rw [cell_blk e]; rfl
    rcases hk with ⟨rfl, p, cap, e0⟩ | ⟨kb, ko, cap, e0, hkb, hk⟩
    · cases e0
      exact (crash1_nil _ _ w.heap.size i W ec).mono fun e w' h => by simpa [keepB] using h
    · cases e0
      refine crash1_any keep w.heap.size kb ko _ i W ec (fun j hj => ?_) hl
      have hnF := hap (by rintro rfl; simp at hj) _ _ _ rfl
      have e2 := hW.heap (k := kb) (by simp; omega) (by simp at hnF ⊢; omega)
      rw [World.cell?_of_block (w := w) (a := ⟨kb, ko + j, none⟩) (e2.trans (heap_alloc_old _ _ _ hkb))]
      exact hk j hj)
  have HC := Lib.hid hc
  clear h hc hW hk hap
  go_enter Tryz.func14, Tryz.ntmps14
  go_wp2_with (go_at_call 44; refine HC.out.mono ?_; rintro e w1 ⟨rfl, hI, hU⟩; (have HI := Lib.hid hI); (have HU := Lib.hid hU); clear hI hU)
  go_ret
  exact ⟨rfl, _, ⟨b0, b1, _, HI.out, rfl⟩, ((((Upd.refl _ w).alloc _).trans (HU.out.frame wv.ownBlock.toList)).wide (by intro k; simp; rintro (h | h | h | h) <;> simp [h])).sub (by simp [Value.ownBlock])⟩

theorem Run.crash {R : List Int} {H : ByteArray → ByteArray → Prop} {f n k : Nat} {T : Sc × Dv} (h : Run R H f n k T) (keep : List Bool) : ∃ S0 : Sc, S0.from' = f ∧ S0.n = n ∧ S0.seq ≤ 2 * k ∧ Inv R H S0 (T.2.crash keep) := by
  have hws := h.ws
  rcases hw : T.2.ws with _ | ⟨x, _ | ⟨y, l⟩⟩
  · have e : T.2.crash keep = { T.2 with ws := [] } := by simp [Dv.crash, hw, keptL, Dv.puts]
    rw [e]; exact h.back
  · cases hk : keepB keep 0 with
    | true =>
      have e : T.2.crash keep = T.2.flush := by simp [Dv.crash, Dv.flush, hw, keptL, hk]
      rw [e]
      exact ⟨T.1, h.fr, h.nn, h.seq, h.inv.flush⟩
    | false =>
      have e : T.2.crash keep = { T.2 with ws := [] } := by simp [Dv.crash, hw, keptL, hk, Dv.puts]
      rw [e]; exact h.back
  · rw [hw] at hws; simp at hws
end Go.Proofs.YtbhokalnkfdekaaGreatDoor
