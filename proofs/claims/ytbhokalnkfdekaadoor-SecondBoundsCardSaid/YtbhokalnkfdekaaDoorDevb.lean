/- Package dev: Size, Lost, put. -/
import Derived.Test.YtbhokalnkfdekaaDoorDev
namespace Go.Proofs.YtbhokalnkfdekaaDoor
open Go.RowKit

theorem size_any (d : Nat) (D : Dv) (F : List Nat) (dev : Int) (w : World) (hd : Devs w d D F) :
    Calls Tryd.prog 13 #[.pointer (some ⟨d, 0, none⟩), .int .i64 dev] w fun e w' => e = .returned (.int .i64 (D.len dev)) ∧ w' = w := by
  obtain ⟨b0, b1, wv, hd, -⟩ := hd
  have c0 := hd.c0
  have c1 := hd.c1
  by_cases h0 : dev = 0
  · subst h0
    clear hd
    go_enter Tryd.func13, Tryd.ntmps13
    go_wp2_with (go_at_call 26; refine (is_any _ _ _).mono ?_; rintro e w' ⟨rfl, rfl⟩)
    go_ret
    exact ⟨rfl, rfl⟩
  · by_cases h1 : dev = 1
    · subst h1
      clear hd
      go_enter Tryd.func13, Tryd.ntmps13
      go_wp2_with (go_at_call 26; refine (is_any _ _ _).mono ?_; rintro e w' ⟨rfl, rfl⟩)
      go_ret
      exact ⟨rfl, rfl⟩
    · have hi : (dev == 0 || dev == 1) = false := by simp [h0, h1]
      have hv : D.len dev = 0 := by simp [Dv.len, h0, h1]
      rw [hv]
      clear hd hv
      go_enter Tryd.func13, Tryd.ntmps13
      go_wp2_with (go_at_call 26; refine (is_any _ _ _).mono ?_; rintro e w' ⟨rfl, rfl⟩)
      go_ret
      exact ⟨rfl, rfl⟩

theorem lost_any (d : Nat) (D : Dv) (F : List Nat) (dev : Int) (w : World) (hd : Devs w d D F) :
    Calls Tryd.prog 18 #[.pointer (some ⟨d, 0, none⟩), .int .i64 dev] w fun e w' => e = .returned (.bool (D.lost dev)) ∧ w' = w := by
  obtain ⟨b0, b1, wv, hd, -⟩ := hd
  have c2 := hd.c2
  have c3 := hd.c3
  by_cases h0 : dev = 0
  · subst h0
    clear hd
    go_enter Tryd.func18, Tryd.ntmps18
    go_wp2_with (go_at_call 26; refine (is_any _ _ _).mono ?_; rintro e w' ⟨rfl, rfl⟩)
    go_ret
    exact ⟨rfl, rfl⟩
  · by_cases h1 : dev = 1
    · subst h1
      clear hd
      go_enter Tryd.func18, Tryd.ntmps18
      go_wp2_with (go_at_call 26; refine (is_any _ _ _).mono ?_; rintro e w' ⟨rfl, rfl⟩)
      go_ret
      exact ⟨rfl, rfl⟩
    · have hi : (dev == 0 || dev == 1) = false := by simp [h0, h1]
      have hv : D.lost dev = false := by simp [Dv.lost, h0, h1]
      rw [hv]
      clear hd hv
      go_enter Tryd.func18, Tryd.ntmps18
      go_wp2_with (go_at_call 26; refine (is_any _ _ _).mono ?_; rintro e w' ⟨rfl, rfl⟩)
      go_ret
      exact ⟨rfl, rfl⟩

theorem strs_get {l : List ByteArray} {k : Nat} (h : k < l.length) : (strs l)[k]? = some (.string (l.getD k ⟨#[]⟩)) := by
  simp [strs, List.getD, h]
theorem strs_set (l : List ByteArray) (k : Nat) (s : ByteArray) : (strs l).setIfInBounds k (.string s) = strs (l.set k s) := by
  simp [strs, List.map_set]

set_option maxRecDepth 100000 in
set_option maxHeartbeats 1000000 in
theorem put_0 (d b0 : Nat) (n : Nat) (at' : Int) (s t : ByteArray) (w : World) (c0 : w.cell? ⟨d, 0, none⟩ = some (.slice (some ⟨b0, 0, none⟩) n n)) (ha : 0 ≤ at') (hl : at' < n)
    (ct : w.cell? ⟨b0, at'.toNat, none⟩ = some (.string t)) (hf : w.frozen? ⟨b0, at'.toNat, none⟩ = false) (hb : b0 < w.heap.size) (hdl : d < w.heap.size) (hdb : d ≠ b0) :
    Calls Tryd.prog 31 #[.pointer (some ⟨d, 0, none⟩), .agg #[.int .i64 0, .int .i64 at', .string s]] w fun e w' => e = .returned (.tuple #[]) ∧
      Kept (w.setCell ⟨b0, at'.toNat, none⟩ (.string s)) w' := by
  have h1 : d ≠ w.heap.size := by omega
  have h2 : b0 ≠ w.heap.size := by omega
  have h3 : b0 ≠ d := Ne.symm hdb
  go_enter Tryd.func31, Tryd.ntmps31
  go_wp2_with fail
  go_region_held3 (fun w' => w'.cell? ⟨d, 0, none⟩ = some (.slice (some ⟨b0, 0, none⟩) n n) ∧ w'.cell? ⟨w.heap.size, 0, none⟩ = some (.int .i64 0) ∧ w'.cell? ⟨w.heap.size, 1, none⟩ = some (.int .i64 at') ∧ w'.cell? ⟨w.heap.size, 2, none⟩ = some (.string s)) ((simp [*, World.cell?_alloc_at, World.cell?_alloc_past, World.cell?_setCell_far])) (fail)
  go_wp2
  go_end0
  exact ⟨rfl, (by repeat (first | exact Below.refl _ _ | assumption | refine Below.drewN ?_ _ | refine Below.drew ?_ | (refine Below.alloc' _ ?_ ?_; (focus ((first | omega | (simp; done) | (simp; omega))))) | (refine Below.setCell' _ ?_ ?_; (focus ((first | omega | (simp; done) | (simp; omega)))))))⟩

set_option maxRecDepth 100000 in
set_option maxHeartbeats 1000000 in
theorem put_1 (d b0 : Nat) (n : Nat) (at' : Int) (s t : ByteArray) (w : World) (c0 : w.cell? ⟨d, 1, none⟩ = some (.slice (some ⟨b0, 0, none⟩) n n)) (ha : 0 ≤ at') (hl : at' < n)
    (ct : w.cell? ⟨b0, at'.toNat, none⟩ = some (.string t)) (hf : w.frozen? ⟨b0, at'.toNat, none⟩ = false) (hb : b0 < w.heap.size) (hdl : d < w.heap.size) (hdb : d ≠ b0) :
    Calls Tryd.prog 31 #[.pointer (some ⟨d, 0, none⟩), .agg #[.int .i64 1, .int .i64 at', .string s]] w fun e w' => e = .returned (.tuple #[]) ∧
      Kept (w.setCell ⟨b0, at'.toNat, none⟩ (.string s)) w' := by
  have h1 : d ≠ w.heap.size := by omega
  have h2 : b0 ≠ w.heap.size := by omega
  have h3 : b0 ≠ d := Ne.symm hdb
  go_enter Tryd.func31, Tryd.ntmps31
  go_wp2_with fail
  go_region_held3 (fun w' => w'.cell? ⟨d, 1, none⟩ = some (.slice (some ⟨b0, 0, none⟩) n n) ∧ w'.cell? ⟨w.heap.size, 0, none⟩ = some (.int .i64 1) ∧ w'.cell? ⟨w.heap.size, 1, none⟩ = some (.int .i64 at') ∧ w'.cell? ⟨w.heap.size, 2, none⟩ = some (.string s)) ((simp [*, World.cell?_alloc_at, World.cell?_alloc_past, World.cell?_setCell_far])) (fail)
  go_wp2
  go_end0
  exact ⟨rfl, (by repeat (first | exact Below.refl _ _ | assumption | refine Below.drewN ?_ _ | refine Below.drew ?_ | (refine Below.alloc' _ ?_ ?_; (focus ((first | omega | (simp; done) | (simp; omega))))) | (refine Below.setCell' _ ?_ ?_; (focus ((first | omega | (simp; done) | (simp; omega)))))))⟩

theorem size_set (w : World) (a : Addr) (v : Value) : (w.setCell a v).heap.size = w.heap.size := by simp [World.setCell]

/-- a store into a sector -/
theorem IsDevs.stored {w w' : World} {d b0 b1 : Nat} {wv : Value} {D : Dv} (h : IsDevs w d b0 b1 wv D) (x : Int × Int × ByteArray) (hx : x.2.2.size ≤ 1024)
    (hk : Kept (w.setCell ⟨if x.1 = 0 then b0 else b1, x.2.1.toNat, none⟩ (.string x.2.2)) w') : IsDevs w' d b0 b1 wv (D.put x) := by
  have hd := lt_blk h.blk
  have h0 := lt_blk h.sec0
  have h1 := lt_blk h.sec1
  have e : ∀ k, k < w.heap.size → w'.heap[k]? = (w.setCell ⟨if x.1 = 0 then b0 else b1, x.2.1.toNat, none⟩ (.string x.2.2)).heap[k]? := fun k hk' => hk.heap (by rw [size_set]; exact hk')
  by_cases hz : x.1 = 0
  · simp only [hz, if_true] at e
    refine ⟨?_, ?_, ?_, ?_, ⟨?_, ?_, ?_, ?_, ?_⟩, h.ne, h.nd0, h.nd1, h.wb0, h.wb1, h.wbd⟩
    · rw [e d hd, heap_set_ne _ _ _ _ _ h.nd0, h.blk]; simp [Dv.put, hz]
    · rw [e b0 h0, heap_set_eq _ _ _ _ h.sec0]; simp [Dv.put, hz, strs_set]
    · rw [e b1 h1, heap_set_ne _ _ _ _ _ (Ne.symm h.ne), h.sec1]; simp [Dv.put, hz]
    · have hw := ownsRow_heap (w' := w') h.wait (fun k hk' => by
        rw [e k (h.wait.lt k hk').2, heap_set_ne _ _ _ _ _ (fun e' => h.wb0 (by rw [hk', e']))])
      simpa [Dv.put, hz] using hw
    · simpa [Dv.put, hz] using h.ok.le0
    · simpa [Dv.put, hz] using h.ok.le1
    · intro s hs
      simp only [Dv.put, hz, if_true] at hs
      rcases List.mem_or_eq_of_mem_set hs with h2 | h2
      · exact h.ok.t0 s h2
      · rw [h2]; exact hx
    · simpa [Dv.put, hz] using h.ok.t1
    · intro y hy
      have hy' := h.ok.tw y (by simpa [Dv.put, hz] using hy)
      exact ⟨hy'.1, by have := hy'.2; simpa [Dv.put, hz, Dv.valid] using this⟩
  · simp only [hz, if_false] at e
    refine ⟨?_, ?_, ?_, ?_, ⟨?_, ?_, ?_, ?_, ?_⟩, h.ne, h.nd0, h.nd1, h.wb0, h.wb1, h.wbd⟩
    · rw [e d hd, heap_set_ne _ _ _ _ _ h.nd1, h.blk]; simp [Dv.put, hz]
    · rw [e b0 h0, heap_set_ne _ _ _ _ _ h.ne, h.sec0]; simp [Dv.put, hz]
    · rw [e b1 h1, heap_set_eq _ _ _ _ h.sec1]; simp [Dv.put, hz, strs_set]
    · have hw := ownsRow_heap (w' := w') h.wait (fun k hk' => by
        rw [e k (h.wait.lt k hk').2, heap_set_ne _ _ _ _ _ (fun e' => h.wb1 (by rw [hk', e']))])
      simpa [Dv.put, hz] using hw
    · simpa [Dv.put, hz] using h.ok.le0
    · simpa [Dv.put, hz] using h.ok.le1
    · simpa [Dv.put, hz] using h.ok.t0
    · intro s hs
      simp only [Dv.put, hz, if_false] at hs
      rcases List.mem_or_eq_of_mem_set hs with h2 | h2
      · exact h.ok.t1 s h2
      · rw [h2]; exact hx
    · intro y hy
      have hy' := h.ok.tw y (by simpa [Dv.put, hz] using hy)
      exact ⟨hy'.1, by have := hy'.2; simpa [Dv.put, hz, Dv.valid] using this⟩

theorem put_any (d b0 b1 : Nat) (wv : Value) (D : Dv) (x : Int × Int × ByteArray) (w : World) (h : IsDevs w d b0 b1 wv D) (hv : D.valid x.1 x.2.1) (hx : x.2.2.size ≤ 1024) :
    Calls Tryd.prog 31 #[.pointer (some ⟨d, 0, none⟩), .agg #[.int .i64 x.1, .int .i64 x.2.1, .string x.2.2]] w fun e w' => e = .returned (.tuple #[]) ∧
      IsDevs w' d b0 b1 wv (D.put x) ∧ Upd [b0, b1] w [b0, b1] w' := by
  obtain ⟨dev, at', s⟩ := x
  have go : ∀ (b : Nat) (w' : World), b = b0 ∨ b = b1 → Kept (w.setCell ⟨b, at'.toNat, none⟩ (.string s)) w' → Upd [b0, b1] w [b0, b1] w' := fun b w' hb hk =>
    ((Upd.refl _ w).setCell (.inl (by simpa using hb)) _).trans hk.upd
  rcases hv with ⟨rfl, h1, h2⟩ | ⟨rfl, h1, h2⟩
  · dsimp only at h1 h2
    have hn : at'.toNat < D.s0.length := by omega
    refine (put_0 d b0 D.s0.length at' s (D.s0.getD at'.toNat ⟨#[]⟩) w h.c0 h1 h2 (by rw [cell_blk h.sec0]; exact strs_get hn) (frozen_blk h.sec0) (lt_blk h.sec0) (lt_blk h.blk) h.nd0).mono ?_
    rintro e w' ⟨rfl, hk⟩
    exact ⟨rfl, h.stored (0, at', s) hx (by simpa using hk), go b0 w' (.inl rfl) hk⟩
  · dsimp only at h1 h2
    have hn : at'.toNat < D.s1.length := by omega
    refine (put_1 d b1 D.s1.length at' s (D.s1.getD at'.toNat ⟨#[]⟩) w h.c1 h1 h2 (by rw [cell_blk h.sec1]; exact strs_get hn) (frozen_blk h.sec1) (lt_blk h.sec1) (lt_blk h.blk) h.nd1).mono ?_
    rintro e w' ⟨rfl, hk⟩
    exact ⟨rfl, h.stored (1, at', s) hx (by simpa using hk), go b1 w' (.inr rfl) hk⟩
end Go.Proofs.YtbhokalnkfdekaaDoor
