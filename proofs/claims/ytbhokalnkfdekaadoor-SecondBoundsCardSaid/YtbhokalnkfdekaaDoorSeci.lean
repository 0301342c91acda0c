/- Package second: a cache over its devices, step by step. -/
import Derived.Test.YtbhokalnkfdekaaDoorSech
import Derived.Test.YtbhokalnkfdekaaDoorRound
namespace Go.Proofs.YtbhokalnkfdekaaDoor
open Go.RowKit
open Go.Proofs Go.Shelf Go.Maps

/-- a block of another type is none of the devices' -/
theorem Devs.other {w : World} {d : Nat} {D : Dv} {F : List Nat} (h : Devs w d D F) {k : Nat} {cs : Array Value} {T : TypeId} {fz : Nat × Nat} (hk : w.heap[k]? = some (.cells cs T fz)) (h1 : T ≠ 52) (h2 : T ≠ 9) (h3 : T ≠ 75) : k ∉ F := by
  obtain ⟨b0, b1, wv, hI, rfl⟩ := h
  intro hm
  simp only [List.mem_cons, Option.mem_toList] at hm
  rcases hm with rfl | rfl | rfl | hm
  · rw [hI.blk] at hk; cases hk; exact h1 rfl
  · rw [hI.sec0] at hk; cases hk; exact h2 rfl
  · rw [hI.sec1] at hk; cases hk; exact h2 rfl
  · rcases hI.wait.2 with ⟨e, _⟩ | ⟨g, c, cur, e, _, hg, _⟩
    · rw [e] at hm; cases hm
    · rw [e] at hm; cases hm; rw [hg] at hk; cases hk; exact h3 rfl

/-- a cache at s, its devices in the blocks F, the digests' table -/
structure Cach (R : List Int) (w : World) (s d b m : Nat) (S : Sc) (D : Dv) (F : List Nat) : Prop where
  sc : IsSc w s d b m S
  dv : Devs w d D F
  rt : Roots w R
  sF : s ∉ F
  rF : 0 ∉ F
  sR : s ≠ 0

section
variable {R : List Int} {w w' : World} {s d b m : Nat} {S : Sc} {D : Dv} {F F' G : List Nat}
theorem Cach.bF (h : Cach R w s d b m S D F) : b ∉ F := fun hm => by
  obtain ⟨cs, T, fz', hc⟩ := h.dv.cells b hm
  obtain ⟨DD, ⟨es, ck, h1, _⟩, _⟩ := h.sc.mp
  rw [h1] at hc; cases hc
theorem Cach.bs (h : Cach R w s d b m S D F) : b ≠ s := fun e => by
  obtain ⟨DD, ⟨es, ck, h1, _⟩, _⟩ := h.sc.mp
  rw [e, h.sc.blk] at h1; cases h1
theorem Cach.bR (h : Cach R w s d b m S D F) : b ≠ 0 := fun e => by
  obtain ⟨DD, ⟨es, ck, h1, _⟩, _⟩ := h.sc.mp
  have h2 := h.rt 0 (by omega)
  simp only [World.cell?] at h2
  rw [← e, h1] at h2
  cases h2
theorem Cach.lt (h : Cach R w s d b m S D F) : ∀ k ∈ s :: b :: F, k < w.heap.size := by
  intro k hk
  simp only [List.mem_cons] at hk
  rcases hk with rfl | rfl | hk
  · exact lt_blk h.sc.blk
  · exact h.sc.mp.lt
  · exact h.dv.lt k hk
theorem Cach.kept (h : Cach R w s d b m S D F) (hk : Kept w w') : Cach R w' s d b m S D F := ⟨h.sc.kept hk, h.dv.kept hk, h.rt.kept hk, h.sF, h.rF, h.sR⟩
/-- what turns the devices alone -/
theorem Cach.devs {D' : Dv} (h : Cach R w s d b m S D F) (hd : Devs w' d D' F') (hu : Upd F w F' w') : Cach R w' s d b m S D' F' := by
  have l := h.lt
  exact ⟨h.sc.heap (hu.heap (l s (by simp)) h.sF) (hu.heap (l b (by simp)) h.bF), hd, h.rt.heap (hu.heap h.rt.lt h.rF),
    hu.apart (G := [s]) (by simpa using l s (by simp)) (by simpa using h.sF) s (by simp), hu.apart (G := [_]) (by simpa using h.rt.lt) (by simpa using h.rF) _ (by simp), h.sR⟩
theorem Upd.wide2 {F F' : List Nat} (h : Upd F w F' w') (s b : Nat) : Upd (s :: b :: F) w (s :: b :: F') w' := by
  simpa using h.frame [s, b]
theorem Upd.wideS {F F' : List Nat} (h : Upd (s :: F) w (s :: F') w') (b : Nat) : Upd (s :: b :: F) w (s :: b :: F') w' := by
  have := h.frame [b]
  exact (this.wide (G := s :: b :: F) (by intro k hk; simp only [List.mem_append, List.mem_cons, List.not_mem_nil, or_false] at hk ⊢; rcases hk with h1 | h1 | h1 <;> simp [h1])).sub (by intro k hk; simp only [List.mem_append, List.mem_cons, List.not_mem_nil, or_false] at hk ⊢; rcases hk with h1 | h1 | h1 <;> simp [h1])
theorem Upd.wideB (h : Upd [b] w [b] w') (s : Nat) (F : List Nat) : Upd (s :: b :: F) w (s :: b :: F) w' :=
  (h.frame (s :: F)).wide (G := s :: b :: F) (by intro k hk; simp only [List.mem_append, List.mem_cons, List.not_mem_nil, or_false] at hk ⊢; rcases hk with (h1 | h1) | h1 <;> simp [h1]) |>.sub (by intro k hk; simp only [List.mem_append, List.mem_cons, List.not_mem_nil, or_false] at hk ⊢; rcases hk with h1 | h1 | h1 <;> simp [h1])

theorem turned_upd (h : w.mapTurned w' b) : Upd [b] w [b] w' := by
  obtain ⟨es, ck, es', ck', hb, rfl⟩ := h
  exact ⟨rfl, rfl, rfl, by simp [Go.ChangeMaps.setBlock], fun k hk hF => by simp at hF; simp [Go.ChangeMaps.setBlock, Array.getElem?_setIfInBounds, Ne.symm hF], fun k hk => .inl hk⟩
theorem Cach.map {m' : Nat} {M' : Nat → Option En} (h : Cach R w s d b m S D F) (hm : Mp w' b m' (mapV M')) (hu : Upd [b] w [b] w') (hok : ∀ p x, M' p = some x → p < roomN S.n ∧ OkEn x) : Cach R w' s d b m' { S with M := M' } D F := by
  have l := h.lt
  refine ⟨⟨(hu.heap (l s (by simp)) (by simpa using Ne.symm h.bs)).trans h.sc.blk, hm, h.sc.okn, h.sc.okf, hok⟩, h.dv.heap (fun k hk => hu.heap (h.dv.lt k hk) (by simp; rintro rfl; exact h.bF hk)), h.rt.heap (hu.heap h.rt.lt (by simpa using Ne.symm h.bR)), h.sF, h.rF, h.sR⟩
end

/-- delete(s.entries, place) -/
theorem drop_c {R : List Int} {w : World} {s d b m : Nat} {S : Sc} {D : Dv} {F : List Nat} (h : Cach R w s d b m S D F) (p : Nat) (hp : p ≤ 1000000) (ty : TypeId) :
    ∃ w', (Builtin.delete_ #[53, 3] ty #[.map (some b), .int .i64 p]).run Tryd.prog w = .ok (.tuple #[]) w' ∧ Cach R w' s d b m { S with M := dropM S.M p } D F ∧ Upd (s :: b :: F) w (s :: b :: F) w' := by
  obtain ⟨w', hrun, hm, ht⟩ := h.sc.mp.drop Tryd.underlying53 (k := (p : Int)) (by unfold Wf; omega) ty
  rw [mapV_drop] at hm
  refine ⟨w', hrun, h.map hm (turned_upd ht) (fun q x hx => h.sc.okm q x ?_), ?_⟩
  · unfold dropM at hx; split at hx
    · cases hx
    · exact hx
  · exact (turned_upd ht).wideB s F
/-- s.entries[place] = x -/
theorem set_c {R : List Int} {w : World} {s d b m : Nat} {S : Sc} {D : Dv} {F : List Nat} (h : Cach R w s d b m S D F) (p : Nat) (x : En) (hp : p < roomN S.n) (hx : OkEn x) (hm : m ≤ 1000000) :
    ∃ w', (Instr.mapUpdate 53 (.map (some b)) (.int .i64 p) (enV x)).run Tryd.prog w = .ok () w' ∧ Cach R w' s d b (m + 1) { S with M := setM S.M p x } D F ∧ Upd (s :: b :: F) w (s :: b :: F) w' := by
  have hn := h.sc.okn
  obtain ⟨w', hrun, hM, ht⟩ := h.sc.mp.store Tryd.underlying53 (by omega) (k := (p : Int)) (by unfold roomN at hp; unfold Wf; omega) (enV x)
  rw [mapV_set] at hM
  have hu : Upd [b] w [b] w' := Upd.grown ht (fun k hk => by cases hk; simp)
  refine ⟨w', hrun, h.map hM hu (fun q y hy => ?_), ?_⟩
  · unfold setM at hy; split at hy
    · rename_i e; cases e; cases hy; exact ⟨hp, hx⟩
    · exact h.sc.okm q y hy
  · exact hu.wideB s F

theorem tell_c (R : List Int) (s d b m g : Nat) (S : Sc) (D : Dv) (F : List Nat) (w : World) (h : Cach R w s d b m S D F) (hg : g ≤ 512) (hseq : S.seq < 1000000) (hws : D.ws.length + 1 ≤ 1000000000) (hmay : D.may 1 ((S.from' : Int) + 8 * g) (encB R (S.seq + 1) (groupE S g (secs S.n g))).size = 0) :
    Calls Tryd.prog 21 #[.pointer (some ⟨s, 0, none⟩), .int .i64 g] w fun e w' => e = .returned (.tuple #[]) ∧ ∃ F', Cach R w' s d b m { S with seq := S.seq + 1 } (D.write 1 ((S.from' : Int) + 8 * g) (encB R (S.seq + 1) (groupE S g (secs S.n g)))) F' ∧ Upd (s :: b :: F) w (s :: b :: F') w' := by
  refine (tell_any R s d b m g S D F w h.rt h.sc h.dv h.sF h.sR hg hseq hws hmay).mono ?_
  rintro e w' ⟨rfl, F', hS, hD, hU⟩
  have l := h.lt
  refine ⟨rfl, F', ⟨hS, hD, h.rt.heap (hU.heap h.rt.lt (by simp; exact ⟨Ne.symm h.sR, h.rF⟩)), ?_, ?_, h.sR⟩, hU.wideS b⟩
  · exact hD.other hS.blk (by decide) (by decide) (by decide)
  · exact fun hm => hU.apart (G := [0]) (by simpa using h.rt.lt) (by simpa using ⟨Ne.symm h.sR, h.rF⟩) 0 (by simp) (by simp [hm])
theorem flush_c (R : List Int) (s d b m : Nat) (S : Sc) (D : Dv) (F : List Nat) (w : World) (h : Cach R w s d b m S D F) :
    Calls Tryd.prog 10 #[.pointer (some ⟨d, 0, none⟩)] w fun e w' => e = .returned (.int .i64 0) ∧ ∃ F', Cach R w' s d b m S D.flush F' ∧ Upd (s :: b :: F) w (s :: b :: F') w' := by
  refine (flush_any d D F w h.dv).mono ?_
  rintro e w' ⟨rfl, F', hD, hU⟩
  exact ⟨rfl, F', h.devs hD hU, hU.wide2 s b⟩
theorem write_c (R : List Int) (s d b m : Nat) (S : Sc) (D : Dv) (F : List Nat) (dev at' : Int) (t : ByteArray) (w : World) (h : Cach R w s d b m S D F) (hm : D.may dev at' t.size = 0) (hn : D.ws.length + 1 ≤ 1000000000) :
    Calls Tryd.prog 22 #[.pointer (some ⟨d, 0, none⟩), .agg #[.int .i64 dev, .int .i64 at'], .string t] w fun e w' => e = .returned (.int .i64 0) ∧ ∃ F', Cach R w' s d b m S (D.write dev at' t) F' ∧ Upd (s :: b :: F) w (s :: b :: F') w' := by
  refine (write_any d D F dev at' t w h.dv hm hn).mono ?_
  rintro e w' ⟨rfl, F', hD, hU⟩
  exact ⟨rfl, F', h.devs hD hU, hU.wide2 s b⟩
end Go.Proofs.YtbhokalnkfdekaaDoor
