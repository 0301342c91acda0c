/- Package dev: done, Flush, Crash. -/
import Derived.Test.YtbhokalnkfdekaaDoorDevc
namespace Go.Proofs.YtbhokalnkfdekaaDoor
open Go.RowKit

/-- The waits have turned, and nothing else. -/
theorem IsDevs.waits {w w' : World} {d b0 b1 : Nat} {wv wv' : Value} {D : Dv} (h : IsDevs w d b0 b1 wv D) (ws' : List (Int × Int × ByteArray))
    (hb : w'.heap[d]? = some (.cells #[.slice (some ⟨b0, 0, none⟩) D.s0.length D.s0.length, .slice (some ⟨b1, 0, none⟩) D.s1.length D.s1.length, .bool D.l0, .bool D.l1, wv'] 52 (0, 0)))
    (h0 : w'.heap[b0]? = w.heap[b0]?) (h1 : w'.heap[b1]? = w.heap[b1]?) (hw : w'.ownsRow 0 75 3 wv' ws'.length (wcells ws'))
    (hn : ∀ k, wv'.ownBlock = some k → wv.ownBlock = some k ∨ w.heap.size ≤ k) (ht : ∀ x ∈ ws', x.2.2.size ≤ 1024 ∧ D.valid x.1 x.2.1) : IsDevs w' d b0 b1 wv' { D with ws := ws' } := by
  have ne : ∀ k, k < w.heap.size → wv.ownBlock ≠ some k → wv'.ownBlock ≠ some k := fun k hk h1 h2 => (hn k h2).elim h1 (by omega)
  exact ⟨hb, h0.trans h.sec0, h1.trans h.sec1, hw, ⟨h.ok.le0, h.ok.le1, h.ok.t0, h.ok.t1, fun x hx => ht x hx⟩, h.ne, h.nd0, h.nd1, ne _ (lt_blk h.sec0) h.wb0, ne _ (lt_blk h.sec1) h.wb1, ne _ (lt_blk h.blk) h.wbd⟩

theorem IsDevs.cleared {w w' : World} {d b0 b1 : Nat} {wv : Value} {D : Dv} (h : IsDevs w d b0 b1 wv D) (hk : Kept (w.setCell ⟨d, 4, none⟩ (.slice none 0 0)) w') : IsDevs w' d b0 b1 (.slice none 0 0) { D with ws := [] } := by
  have hd := lt_blk h.blk
  have e : ∀ k, k < w.heap.size → w'.heap[k]? = (w.setCell ⟨d, 4, none⟩ (.slice none 0 0)).heap[k]? := fun k hk' => hk.heap (by rw [size_set]; exact hk')
  refine h.waits [] ?_ ?_ ?_ (World.ownsRow_nil _ _ _ _) (by simp [Value.ownBlock]) (by simp)
  · rw [e d hd, heap_set_eq _ _ _ _ h.blk]; simp
  · rw [e b0 (lt_blk h.sec0), heap_set_ne _ _ _ _ _ (Ne.symm h.nd0)]
  · rw [e b1 (lt_blk h.sec1), heap_set_ne _ _ _ _ _ (Ne.symm h.nd1)]

set_option maxRecDepth 100000 in
set_option maxHeartbeats 1000000 in
theorem done_flush (d b0 b1 : Nat) (wv : Value) (D : Dv) (w : World) (h : IsDevs w d b0 b1 wv D) (kb : Nat → Bool) (cap : Array Value) (hcap : cap = #[])
    (hkb : ∀ W, Upd [b0, b1] w [b0, b1] W → ∀ i : Nat, Calls Tryd.prog 25 (#[.int .i64 i] ++ cap) W fun e w' => e = .returned (.bool (kb i)) ∧ w' = W) :
    Calls Tryd.prog 24 #[.pointer (some ⟨d, 0, none⟩), .func (.func 25) #[] cap] w fun e w' => e = .returned (.int .i64 0) ∧
      IsDevs w' d b0 b1 (.slice none 0 0) { D.puts (keptL kb 0 D.ws) with ws := [] } ∧ Upd [d, b0, b1] w [d, b0, b1] w' := by
  subst hcap
  have hc := settle_flush d b0 b1 wv D w h kb _ rfl hkb
  have HC := Lib.hid hc
  have c4 := h.c4
  clear hkb h hc
  go_enter Tryd.func24, Tryd.ntmps24
  go_wp2_with (go_at_call 41; refine HC.out.mono ?_; rintro e w1 ⟨rfl, hI, hU⟩; (have d4 := hI.c4); (have f4 := frozen_blk (o := 4) hI.blk); (have HI := Lib.hid hI); clear hI c4)
  go_ret
  exact ⟨rfl, HI.out.cleared (Kept.refl _), ((Upd.wide (hU.frame [d]) (by simp)).setCell (p := ⟨d, 4, none⟩) (.inl (by simp)) _).sub (by simp)⟩

theorem flush1_any (i : Int) (w : World) : Calls Tryd.prog 25 #[.int .i64 i] w fun e w' => e = .returned (.bool true) ∧ w' = w := by
  go_enter Tryd.func25, Tryd.ntmps25
  go_wp2
  go_ret
  exact ⟨rfl, rfl⟩

theorem flush_any (d : Nat) (D : Dv) (F : List Nat) (w : World) (h : Devs w d D F) :
    Calls Tryd.prog 10 #[.pointer (some ⟨d, 0, none⟩)] w fun e w' => e = .returned (.int .i64 0) ∧ ∃ F', Devs w' d D.flush F' ∧ Upd F w F' w' := by
  obtain ⟨b0, b1, wv, h, rfl⟩ := h
  have hc := done_flush d b0 b1 wv D w h (fun _ => true) _ rfl (fun W _ i => flush1_any _ _)
  rw [keptL_all] at hc
  have HC := Lib.hid hc
  clear h hc
  go_enter Tryd.func10, Tryd.ntmps10
  go_wp2_with (go_at_call 24; refine HC.out.mono ?_; rintro e w1 ⟨rfl, hI, hU⟩; (have HI := Lib.hid hI); (have HU := Lib.hid hU); clear hI hU)
  go_ret
  exact ⟨rfl, _, ⟨b0, b1, _, HI.out, rfl⟩, ((HU.out.frame wv.ownBlock.toList).wide (by intro k; simp; rintro (h | h | h | h) <;> simp [h])).sub (by simp [Value.ownBlock])⟩
end Go.Proofs.YtbhokalnkfdekaaDoor
