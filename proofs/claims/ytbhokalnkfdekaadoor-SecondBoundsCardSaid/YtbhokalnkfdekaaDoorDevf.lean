/- Package dev: Write, New. -/
import Derived.Test.YtbhokalnkfdekaaDoorDeve
import Derived.Deep.RegionLaw
namespace Go.Proofs.YtbhokalnkfdekaaDoor
open Go.RowKit

theorem Tryd.infoW : (Tryd.prog.info? 75).map (fun i => (i.zero, i.size, i.bytes)) = some (some (.agg #[.int .i64 0, .int .i64 0, .string ⟨#[]⟩]), 3, 32) := by kernel_rfl

theorem write_bad (d : Nat) (D : Dv) (F : List Nat) (dev at' : Int) (s : ByteArray) (w : World) (hd : Devs w d D F) (hc : D.may dev at' s.size ≠ 0) :
    Calls Tryd.prog 22 #[.pointer (some ⟨d, 0, none⟩), .agg #[.int .i64 dev, .int .i64 at'], .string s] w fun e w' => e = .returned (.int .i64 (D.may dev at' s.size)) ∧ Kept w w' := by
  have hcb : (D.may dev at' s.size == 0) = false := by simpa using hc
  have HD := Lib.hid hd
  clear hd hc
  go_enter Tryd.func22, Tryd.ntmps22
  go_wp2_with fail
  refine (may_any d D F dev at' _ _ (HD.out.kept (by repeat (first | exact Below.refl _ _ | assumption | refine Below.drewN ?_ _ | refine Below.drew ?_ | (refine Below.alloc' _ ?_ ?_; (focus ((first | omega | (simp; done) | (simp; omega))))) | (refine Below.setCell' _ ?_ ?_; (focus ((first | omega | (simp; done) | (simp; omega))))))))).mono ?_
  rintro e w1 ⟨rfl, hk⟩
  have HK := Lib.hid (Kept.trans (by repeat (first | exact Below.refl _ _ | assumption | refine Below.drewN ?_ _ | refine Below.drew ?_ | (refine Below.alloc' _ ?_ ?_; (focus ((first | omega | (simp; done) | (simp; omega))))) | (refine Below.setCell' _ ?_ ?_; (focus ((first | omega | (simp; done) | (simp; omega))))))) hk : Kept w w1)
  clear hk
  go_wp2
  go_ret
  exact ⟨rfl, HK.out⟩

set_option maxRecDepth 100000 in
set_option maxHeartbeats 2000000 in
theorem write_ok (d b0 b1 : Nat) (wv : Value) (D : Dv) (dev at' : Int) (s : ByteArray) (w : World) (hI : IsDevs w d b0 b1 wv D) (hm : D.may dev at' s.size = 0) (hn : D.ws.length + 1 ≤ 1000000000) :
    Calls Tryd.prog 22 #[.pointer (some ⟨d, 0, none⟩), .agg #[.int .i64 dev, .int .i64 at'], .string s] w fun e w' => e = .returned (.int .i64 0) ∧
      ∃ g cap w1, w1.ownsRow 0 75 3 (.slice (some ⟨g, 0, none⟩) (D.ws.length + 1) cap) (D.ws.length + 1) (wcells D.ws ++ [.int .i64 dev, .int .i64 at', .string s]) ∧
        (∃ w0, Kept w w0 ∧ w0.grownBy w1 wv.ownBlock) ∧ (wv.ownBlock = some g ∨ w.heap.size ≤ g) ∧ Kept (w1.setCell ⟨d, 4, none⟩ (.slice (some ⟨g, 0, none⟩) (D.ws.length + 1) cap)) w' := by
  obtain ⟨i0, hi, hz0, hz1, hz2⟩ := info_parts Tryd.infoW
  have hd : Devs w d D _ := ⟨b0, b1, wv, hI, rfl⟩
  have c4 := hI.c4
  have hdl := lt_blk hI.blk
  have hown := hI.wait
  have hwb := hI.wbd
  have fd := frozen_blk (o := 4) hI.blk
  have HD := Lib.hid hd
  have HM := Lib.hid hm
  clear hd hI hm
  go_enter Tryd.func22, Tryd.ntmps22
  go_wp2_with fail
  have hA := alloc1 w (.cells #[.int .i64 dev, .int .i64 at'] 42)
  refine (may_any d D _ dev at' _ _ (HD.out.kept hA.2.1)).mono ?_
  rintro e w1 ⟨rfl, hk⟩
  obtain ⟨a3, hA1, hA2⟩ := hA
  have HK := Lib.hid (hA1.trans hk : Kept w w1)
  have hz := hk.size
  rw [hA2] at hz
  have q3 := ((hk.heap (k := w.heap.size) (by omega)).trans a3)
  have y0 : w1.cell? ⟨w.heap.size, 0, none⟩ = some (.int .i64 dev) := by rw [cell_blk q3]; rfl
  have y1 : w1.cell? ⟨w.heap.size, 1, none⟩ = some (.int .i64 at') := by rw [cell_blk q3]; rfl
  have d4 := (Below.cell HK.out (p := ⟨d, 4, none⟩) hdl).trans c4
  have f4 := (Below.frozen HK.out (p := ⟨d, 4, none⟩) hdl).trans fd
  have hown1 := Lib.hid (ownsRow_heap (w' := w1) hown (fun k hk' => HK.out.heap (hown.lt k hk').2))
  clear hk a3 hA1 hA2 hown q3 c4 fd
  rw [HM.out]
  have m1 : d ≠ w1.heap.size := by omega
  have ka : ∀ o, (w1.alloc o).cell? ⟨d, 4, none⟩ = some wv := fun o => (World.cell?_of_block (a := ⟨d, 4, none⟩) (heap_alloc_old w1 o d (by omega))).trans d4
  go_wp2_with fail
  go_region_law
    ((refine step_append_lies _ (by rfl) _ _ _ (by rfl) 0 75 i0 _ 3 32 Tryd.underlying50 hi hz0 hz1 hz2 rfl (by omega) wv D.ws.length (wcells D.ws) (by rfl) ((hown1.out.alloc _).drew)
        ⟨w1.heap.size, 0, none⟩ 1 1 [.int .i64 dev, .int .i64 at', .string s] (by rfl) (by rfl) (World.news_of_block (cs := #[.int .i64 dev, .int .i64 at', .string s]) (t := 75) (fr := (0, 0)) (heap_alloc_new w1 _)) (by simp [Value.oneCell'])
        (by omega) (by unfold maxLen; omega) (by omega) (by omega) (w1.heap.size + 1) (by simp) ?_; intro gg cap w2 hown2 hgrow hat hlt; have k0 : w2.heap[d]? = w1.heap[d]? := (hgrow.block d (by simp; omega) (fun e => hwb e.symm)).trans (heap_alloc_old w1 _ d (by omega)); have k4 := (World.cell?_of_block (a := ⟨d, 4, none⟩) k0).trans d4; have k5 := (World.frozen?_of_block (a := ⟨d, 4, none⟩) k0).trans f4; clear k0))
  all_goals
    go_wp2
    go_ret
    refine ⟨rfl, gg, cap, w2, hown2, ⟨_, ?_, hgrow⟩, hat.imp id (fun e => by omega), Kept.refl _⟩
    exact HK.out.trans (by repeat (first | exact Below.refl _ _ | assumption | refine Below.drewN ?_ _ | refine Below.drew ?_ | (refine Below.alloc' _ ?_ ?_; (focus ((first | omega | (simp; done) | (simp; omega))))) | (refine Below.setCell' _ ?_ ?_; (focus ((first | omega | (simp; done) | (simp; omega)))))))
/-- behind a write -/
theorem write_any (d : Nat) (D : Dv) (F : List Nat) (dev at' : Int) (s : ByteArray) (w : World) (hd : Devs w d D F) (hm : D.may dev at' s.size = 0) (hn : D.ws.length + 1 ≤ 1000000000) :
    Calls Tryd.prog 22 #[.pointer (some ⟨d, 0, none⟩), .agg #[.int .i64 dev, .int .i64 at'], .string s] w fun e w' => e = .returned (.int .i64 0) ∧
      ∃ F', Devs w' d (D.write dev at' s) F' ∧ Upd F w F' w' := by
  have hlt := hd.lt
  obtain ⟨b0, b1, wv, hI, rfl⟩ := hd
  refine (write_ok d b0 b1 wv D dev at' s w hI hm hn).mono ?_
  rintro e w' ⟨rfl, g, cap, w1, hown, ⟨w0, hk0, hg⟩, hat, hk1⟩
  have hvs : D.valid dev at' ∧ s.size ≤ 1024 := by
    by_cases h : D.valid dev at' ∧ s.size ≤ 1024
    · exact h
    · rw [Dv.may, if_neg h] at hm; exact absurd hm (by decide)
  have hne : ∀ k, k < w.heap.size → wv.ownBlock ≠ some k → w1.heap[k]? = w.heap[k]? := fun k hk h => (hg.block k (Nat.lt_of_lt_of_le hk hk0.size) (fun e => h e.symm)).trans (hk0.heap hk)
  have hd := lt_blk hI.blk
  have hl0 := lt_blk hI.sec0
  have hl1 := lt_blk hI.sec1
  have hsz1 : w.heap.size ≤ w1.heap.size := Nat.le_trans hk0.size hg.size
  have e1 : ∀ k, k < w1.heap.size → k ≠ d → w'.heap[k]? = w1.heap[k]? := fun k hk hkd => (hk1.heap (by rw [size_set]; exact hk)).trans (heap_set_ne _ _ _ _ _ hkd)
  have hgd : g ≠ d := by
    rintro rfl
    rcases hat with h | h
    · exact hI.wbd h
    · omega
  have hglt := (hown.lt g rfl).2
  refine ⟨rfl, d :: b0 :: b1 :: [g], ⟨b0, b1, .slice (some ⟨g, 0, none⟩) (D.ws.length + 1) cap, ?_, by simp [Value.ownBlock]⟩, ?_⟩
  · refine hI.waits (D.ws ++ [(dev, at', s)]) ?_ ?_ ?_ ?_ ?_ ?_
    · rw [hk1.heap (by rw [size_set]; omega), heap_set_eq _ _ _ _ ((hne d hd hI.wbd).trans hI.blk)]; simp
    · exact (e1 b0 (by omega) (Ne.symm hI.nd0)).trans (hne b0 hl0 hI.wb0)
    · exact (e1 b1 (by omega) (Ne.symm hI.nd1)).trans (hne b1 hl1 hI.wb1)
    · have := ownsRow_heap (w' := w') hown (fun k hk => by cases hk; exact e1 g hglt hgd)
      simpa [wcells_append, wcells] using this
    · intro k hk; simp only [Value.ownBlock, Option.some.injEq] at hk; subst hk; exact hat
    · intro x hx
      rcases List.mem_append.1 hx with hx | hx
      · exact hI.ok.tw x hx
      · simp only [List.mem_singleton] at hx; subst hx; exact ⟨hvs.2, hvs.1⟩
  · have hu1 : Upd (d :: b0 :: b1 :: wv.ownBlock.toList) w (d :: b0 :: b1 :: wv.ownBlock.toList) w1 :=
      ⟨hg.os.trans hk0.os, hg.tape.trans hk0.tape, hg.output.trans hk0.output, hsz1, fun k hk hF => hne k hk (fun e => hF (by simp [e])), fun k hk => .inl hk⟩
    have hu2 := (hu1.setCell (p := ⟨d, 4, none⟩) (.inl (by simp)) (.slice (some ⟨g, 0, none⟩) (D.ws.length + 1) cap)).trans hk1.upd
    refine ⟨hu2.os, hu2.tape, hu2.output, hu2.size, hu2.block, fun k hk => ?_⟩
    simp only [List.mem_cons, List.not_mem_nil, or_false] at hk
    rcases hk with rfl | rfl | rfl | rfl
    · simp
    · simp
    · simp
    · exact hat.imp (fun e => by simp [e]) id

def Dv.new (a b : Nat) : Dv := { s0 := List.replicate a ⟨#[]⟩, s1 := List.replicate b ⟨#[]⟩, l0 := false, l1 := false, ws := [] }

theorem new_nil (slow fast : Int) (w : World) (h : min slow fast < 1 ∨ 512 < max slow fast) :
    Calls Tryd.prog 7 #[.int .i64 slow, .int .i64 fast] w fun e w' => e = .returned (.pointer none) ∧ w' = w := by
  by_cases h1 : min slow fast < 1
  · go_enter Tryd.func7, Tryd.ntmps7
    go_wp2
    all_goals
      go_ret
      exact ⟨rfl, rfl⟩
  · have h2 := h.resolve_left h1
    clear h
    go_enter Tryd.func7, Tryd.ntmps7
    go_wp2
    all_goals
      go_ret
      exact ⟨rfl, rfl⟩

theorem Tryd.infoS : (Tryd.prog.info? 9).map (fun i => (i.zero, i.size, i.bytes)) = some (some (.string ⟨#[]⟩), 1, 16) := by kernel_rfl

theorem strs_rep (n : Nat) : madeCells (Value.string ⟨#[]⟩).cells (n * 1) = strs (List.replicate n ⟨#[]⟩) := by
  apply Array.ext'
  simp only [madeCells, strs, Value.cells, Nat.mul_one]
  apply List.ext_getElem
  · simp
  · intro i h1 h2; simp [Nat.mod_one]

theorem new_close (a b : Nat) (w : World) (ha2 : a ≤ 512) (hb2 : b ≤ 512) (b0 b1 : Nat) (h0 : w.heap.size ≤ b0 ∧ b0 ≤ w.heap.size + 1) (h1 : w.heap.size ≤ b1 ∧ b1 ≤ w.heap.size + 1) (hne : b0 ≠ b1) (W : World)
    (e0 : W.heap[b0]? = some (.cells (strs (List.replicate a ⟨#[]⟩)) 9)) (e1 : W.heap[b1]? = some (.cells (strs (List.replicate b ⟨#[]⟩)) 9))
    (e2 : W.heap[w.heap.size + 1 + 1]? = some (.cells #[.slice (some ⟨b0, 0, none⟩) a a, .slice (some ⟨b1, 0, none⟩) b b, .bool false, .bool false, .slice none 0 0] 52)) (hk : Kept w W) :
    ∃ d F, Ending.returned (.pointer (some ⟨w.heap.size + 1 + 1, 0, none⟩)) = Ending.returned (.pointer (some ⟨d, 0, none⟩)) ∧ Devs W d (Dv.new a b) F ∧ (∀ k ∈ F, w.heap.size ≤ k) ∧ Kept w W := by
  refine ⟨_, _, rfl, ⟨b0, b1, .slice none 0 0, ⟨?_, ?_, ?_, World.ownsRow_nil _ _ _ _, ⟨?_, ?_, ?_, ?_, ?_⟩, hne, by omega, by omega, by simp [Value.ownBlock], by simp [Value.ownBlock], by simp [Value.ownBlock]⟩, rfl⟩, ?_, hk⟩
  · simpa [Dv.new] using e2
  · simpa [Dv.new] using e0
  · simpa [Dv.new] using e1
  · simpa [Dv.new] using ha2
  · simpa [Dv.new] using hb2
  · intro s hs; simp only [Dv.new, List.mem_replicate] at hs; rw [hs.2]; decide
  · intro s hs; simp only [Dv.new, List.mem_replicate] at hs; rw [hs.2]; decide
  · intro x hx; simp [Dv.new] at hx
  · intro k hk; simp [Value.ownBlock] at hk; omega

set_option maxRecDepth 100000 in
set_option maxHeartbeats 1000000 in
theorem new_ok (a b : Nat) (w : World) (ha : 1 ≤ a) (hb : 1 ≤ b) (ha2 : a ≤ 512) (hb2 : b ≤ 512) :
    Calls Tryd.prog 7 #[.int .i64 a, .int .i64 b] w fun e w' => ∃ d F, e = .returned (.pointer (some ⟨d, 0, none⟩)) ∧ Devs w' d (Dv.new a b) F ∧ (∀ k ∈ F, w.heap.size ≤ k) ∧ Kept w w' := by
  obtain ⟨i0, hi, hz0, hz1, hz2⟩ := info_parts Tryd.infoS
  have hmk : ∀ (n : Nat), n ≤ 512 → ∀ W, (Instr.makeSlice 47 (.int .i64 n) (.int .i64 n)).run Tryd.prog W = .ok (.slice (some ⟨W.heap.size, 0, none⟩) n n) (W.alloc (.cells (strs (List.replicate n ⟨#[]⟩)) 9)) := by
    intro n hn W
    have := run_make (P := Tryd.prog) W 47 9 i0 (.string ⟨#[]⟩) Tryd.underlying47 hi hz0 .i64 .i64 n n (by omega) (Int.le_refl _) (by rw [hz2]; omega) (by omega)
    rw [this, hz1, Int.toNat_natCast, strs_rep]
  have hA := hmk a ha2
  have hB := hmk b hb2
  have m1 : min (a : Int) (b : Int) ≥ 1 := by omega
  have m2 : max (a : Int) (b : Int) ≤ 512 := by omega
  clear hmk
  go_enter Tryd.func7, Tryd.ntmps7
  go_wp2_with fail
  all_goals go_region
  all_goals go_wp2
  all_goals go_ret
  all_goals first
    | exact new_close a b w ha2 hb2 w.heap.size (w.heap.size + 1) (by omega) (by omega) (by omega) _ (alloc3 w _ _ _).1 (alloc3 w _ _ _).2.1 (alloc3 w _ _ _).2.2.1 (by repeat (first | exact Below.refl _ _ | assumption | refine Below.drewN ?_ _ | refine Below.drew ?_ | (refine Below.alloc' _ ?_ ?_; (focus ((first | omega | (simp; done) | (simp; omega))))) | (refine Below.setCell' _ ?_ ?_; (focus ((first | omega | (simp; done) | (simp; omega)))))))
    | exact new_close a b w ha2 hb2 (w.heap.size + 1) w.heap.size (by omega) (by omega) (by omega) _ (alloc3 w _ _ _).2.1 (alloc3 w _ _ _).1 (alloc3 w _ _ _).2.2.1 (by repeat (first | exact Below.refl _ _ | assumption | refine Below.drewN ?_ _ | refine Below.drew ?_ | (refine Below.alloc' _ ?_ ?_; (focus ((first | omega | (simp; done) | (simp; omega))))) | (refine Below.setCell' _ ?_ ?_; (focus ((first | omega | (simp; done) | (simp; omega)))))))
end Go.Proofs.YtbhokalnkfdekaaDoor
