/- Package second: what stands between the steps of a feeding. -/
import Derived.Test.YtbhokalnkfdekaaDoorSeci
namespace Go.Proofs.YtbhokalnkfdekaaDoor
open Go.RowKit
open Go.Proofs Go.Shelf Go.Maps

/-- boxes -/
structure Bxs (w : World) (s q0 q1 q2 q3 sb gb g : Nat) (key load : ByteArray) : Prop where
  b0 : w.cell? ⟨q0, 0, none⟩ = some (.pointer (some ⟨s, 0, none⟩))
  b1 : w.cell? ⟨q1, 0, none⟩ = some (.string key)
  b2 : w.cell? ⟨q2, 0, none⟩ = some (.string load)
  b3 : w.cell? ⟨q3, 0, none⟩ = some (.int .i64 g)
  b4 : w.cell? ⟨sb, 0, none⟩ = some (.pointer (some ⟨s, 0, none⟩))
  b5 : w.cell? ⟨gb, 0, none⟩ = some (.int .i64 g)

section
variable {R : List Int} {w w' w0 : World} {s d b m m' q0 q1 q2 q3 sb gb g : Nat} {key load : ByteArray} {S S' : Sc} {D D' : Dv} {F F' G G0 : List Nat}
theorem Bxs.lt (h : Bxs w s q0 q1 q2 q3 sb gb g key load) : ∀ k ∈ [q0, q1, q2, q3, sb, gb], k < w.heap.size := by
  intro k hk
  simp only [List.mem_cons, List.not_mem_nil, or_false] at hk
  rcases hk with rfl | rfl | rfl | rfl | rfl | rfl
  · exact World.block_lt_of_cell? w _ h.b0
  · exact World.block_lt_of_cell? w _ h.b1
  · exact World.block_lt_of_cell? w _ h.b2
  · exact World.block_lt_of_cell? w _ h.b3
  · exact World.block_lt_of_cell? w _ h.b4
  · exact World.block_lt_of_cell? w _ h.b5
theorem Bxs.upd (h : Bxs w s q0 q1 q2 q3 sb gb g key load) (hu : Upd G w F w') (hn : ∀ k ∈ [q0, q1, q2, q3, sb, gb], k ∉ G) : Bxs w' s q0 q1 q2 q3 sb gb g key load := by
  have l := h.lt
  have e : ∀ k, k ∈ [q0, q1, q2, q3, sb, gb] → w'.cell? ⟨k, 0, none⟩ = w.cell? ⟨k, 0, none⟩ := fun k hk => World.cell?_of_block (a := ⟨k, 0, none⟩) (hu.block k (l k hk) (hn k hk))
  exact ⟨(e _ (by simp)).trans h.b0, (e _ (by simp)).trans h.b1, (e _ (by simp)).trans h.b2, (e _ (by simp)).trans h.b3, (e _ (by simp)).trans h.b4, (e _ (by simp)).trans h.b5⟩

/-- the state between two steps, over what it was at w0 -/
structure Stt (R : List Int) (w0 : World) (G0 : List Nat) (q0 q1 q2 q3 sb gb g : Nat) (key load : ByteArray) (w : World) (s d b m : Nat) (S : Sc) (D : Dv) (F : List Nat) : Prop where
  c : Cach R w s d b m S D F
  x : Bxs w s q0 q1 q2 q3 sb gb g key load
  u : Upd G0 w0 (s :: b :: F) w
  n : ∀ k ∈ [q0, q1, q2, q3, sb, gb], k ∉ s :: b :: F

theorem Stt.next (h : Stt R w0 G0 q0 q1 q2 q3 sb gb g key load w s d b m S D F) (hc : Cach R w' s d b m' S' D' F') (hu : Upd (s :: b :: F) w (s :: b :: F') w') : Stt R w0 G0 q0 q1 q2 q3 sb gb g key load w' s d b m' S' D' F' :=
  ⟨hc, h.x.upd hu h.n, h.u.trans hu, hu.apart h.x.lt h.n⟩
theorem Stt.keep (h : Stt R w0 G0 q0 q1 q2 q3 sb gb g key load w s d b m S D F) (hk : Kept w w') : Stt R w0 G0 q0 q1 q2 q3 sb gb g key load w' s d b m S D F :=
  h.next (h.c.kept hk) hk.upd
def SttF (s d b : Nat) (S : Sc) (q0 q1 q2 q3 g : Nat) (key load : ByteArray) (w : World) : Prop :=
  w.cell? ⟨q0, 0, none⟩ = some (.pointer (some ⟨s, 0, none⟩)) ∧ w.cell? ⟨q1, 0, none⟩ = some (.string key) ∧ w.cell? ⟨q2, 0, none⟩ = some (.string load) ∧ w.cell? ⟨q3, 0, none⟩ = some (.int .i64 g) ∧
  w.cell? ⟨s, 0, none⟩ = some (.pointer (some ⟨d, 0, none⟩)) ∧ w.cell? ⟨s, 3, none⟩ = some (.map (some b)) ∧ w.cell? ⟨s, 5, none⟩ = some (.int .i64 S.hand)
theorem Stt.facts (h : Stt R w0 G0 q0 q1 q2 q3 sb gb g key load w s d b m S D F) : w.cell? ⟨q0, 0, none⟩ = some (.pointer (some ⟨s, 0, none⟩)) ∧ w.cell? ⟨q1, 0, none⟩ = some (.string key) ∧ w.cell? ⟨q2, 0, none⟩ = some (.string load) ∧ w.cell? ⟨q3, 0, none⟩ = some (.int .i64 g) ∧
  w.cell? ⟨s, 0, none⟩ = some (.pointer (some ⟨d, 0, none⟩)) ∧ w.cell? ⟨s, 3, none⟩ = some (.map (some b)) ∧ w.cell? ⟨s, 5, none⟩ = some (.int .i64 S.hand) := ⟨h.x.b0, h.x.b1, h.x.b2, h.x.b3, h.c.sc.c0, h.c.sc.c3, h.c.sc.c5⟩
theorem Stt.sees (h : Stt R w0 G0 q0 q1 q2 q3 sb gb g key load w s d b m S D F) : Sees s gb sb S.from' S.n g w := ⟨h.c.sc.c1, h.c.sc.c2, h.x.b5, h.x.b4⟩
end

/-- a region's held facts: first the one who is called reads -/
def HeldW (s d q0 q2 : Nat) (load : ByteArray) (w : World) : Prop := w.cell? ⟨q0, 0, none⟩ = some (.pointer (some ⟨s, 0, none⟩)) ∧ w.cell? ⟨q2, 0, none⟩ = some (.string load) ∧ w.cell? ⟨s, 0, none⟩ = some (.pointer (some ⟨d, 0, none⟩))

def feedI (R : List Int) (g : Nat) (i : Fin 7) (key load : ByteArray) : Nat → Sc × Dv → Sc × Dv
  | 0, T => T
  | k + 1, T => feed1 R g i key load (feedI R g i key load k T)

theorem Cach.grown {R : List Int} {W W' : World} {s d b m B : Nat} {S : Sc} {D : Dv} {F : List Nat} {row : Option Nat} (h : Cach R W s d b m S D F) (hg : W.grownBy W' row) (hr : ∀ r, row = some r → B ≤ r ∧ ∃ o : Obj, W.heap[r]? = some o ∧ o.isCells = false) (hb : b < B) : Cach R W' s d b m S D F := by
  have hc : ∀ k cs T fz, W.heap[k]? = some (Obj.cells cs T fz) → W'.heap[k]? = W.heap[k]? := fun k cs T fz hk => hg.block k (lt_blk hk) (fun e => by
    obtain ⟨_, o, ho, hn⟩ := hr k e.symm
    rw [hk] at ho; cases ho; cases hn)
  refine ⟨h.sc.heap (hc s _ _ _ h.sc.blk) (hg.block b h.sc.mp.lt (fun e => by have := (hr b e.symm).1; omega)), h.dv.heap (fun k hk => by obtain ⟨cs, T, fz, hx⟩ := h.dv.cells k hk; exact hc k _ _ _ hx), ?_, h.sF, h.rF, h.sR⟩
  have h0 := h.rt 0 (by omega)
  refine h.rt.heap ?_
  simp only [World.cell?] at h0
  split at h0
  · rename_i cs T fz hk
    exact hc _ _ _ _ hk
  all_goals cases h0

theorem Bxs.grown {W W' : World} {s q0 q1 q2 q3 sb gb g B : Nat} {key load : ByteArray} {row : Option Nat} (h : Bxs W s q0 q1 q2 q3 sb gb g key load) (hg : W.grownBy W' row) (hr : ∀ r, row = some r → B ≤ r ∧ ∃ o : Obj, W.heap[r]? = some o ∧ o.isCells = false) : Bxs W' s q0 q1 q2 q3 sb gb g key load := by
  have e : ∀ k v, W.cell? ⟨k, 0, none⟩ = some v → W'.cell? ⟨k, 0, none⟩ = some v := fun k v hk => (World.cell?_of_block (a := ⟨k, 0, none⟩) (hg.block k (World.block_lt_of_cell? W _ hk) (fun e => by
    obtain ⟨_, o, ho, hn⟩ := hr k e.symm
    simp only [World.cell?, ho] at hk
    cases o with
    | cells cs T fz => cases hn
    | _ => cases hk))).trans hk
  exact ⟨e _ _ h.b0, e _ _ h.b1, e _ _ h.b2, e _ _ h.b3, e _ _ h.b4, e _ _ h.b5⟩
theorem Stt.grown {R : List Int} {w0 W W' : World} {s d b m q0 q1 q2 q3 sb gb g : Nat} {key load : ByteArray} {S : Sc} {D : Dv} {F G0 : List Nat} {row : Option Nat} (h : Stt R w0 G0 q0 q1 q2 q3 sb gb g key load W s d b m S D F) (hg : W.grownBy W' row) (hr : ∀ r, row = some r → w0.heap.size ≤ r ∧ ∃ o : Obj, W.heap[r]? = some o ∧ o.isCells = false) (hb : b < w0.heap.size) : Stt R w0 G0 q0 q1 q2 q3 sb gb g key load W' s d b m S D F :=
  ⟨h.c.grown hg hr hb, h.x.grown hg hr, ⟨hg.os.trans h.u.os, hg.tape.trans h.u.tape, hg.output.trans h.u.output, Nat.le_trans h.u.size hg.size, fun k hk hF => (hg.block k (Nat.lt_of_lt_of_le hk h.u.size) (fun e => by have := (hr k e.symm).1; omega)).trans (h.u.block k hk hF), h.u.new⟩, h.n⟩

theorem Fit.cast {S S' : Sc} {D : Dv} (h : Fit S D) (h1 : S'.from' = S.from') (h2 : S'.n = S.n) : Fit S' D := ⟨by rw [h2]; exact h.two, by rw [h1, h2]; exact h.reg, h.len, h.l1, h.ws⟩
theorem feed1_fit {R : List Int} {g : Nat} {i : Fin 7} {key load : ByteArray} {T : Sc × Dv} (h : Fit T.1 T.2) (hw : T.2.ws.length ≤ 900) : Fit (feed1 R g i key load T).1 (feed1 R g i key load T).2 ∧ (feed1 R g i key load T).2.ws.length ≤ 900 := by
  refine ⟨Fit.cast (S := T.1) (D := (feed1 R g i key load T).2) ?_ rfl rfl, by simp [feed1, Dv.write, Dv.flush]⟩
  unfold feed1
  exact Fit.write (Fit.flush (Fit.write (Fit.flush (Fit.write h _ _ (by omega))) _ _ (by simp [Dv.flush]))) _ _ (by simp [Dv.flush])
theorem feedI_facts {R : List Int} {g : Nat} {i : Fin 7} {key load : ByteArray} {T : Sc × Dv} (h : Fit T.1 T.2) (hw : T.2.ws.length ≤ 900) : ∀ k, (feedI R g i key load k T).1.from' = T.1.from' ∧ (feedI R g i key load k T).1.n = T.1.n ∧ (feedI R g i key load k T).1.hand = T.1.hand ∧ (feedI R g i key load k T).1.seq = T.1.seq + 2 * k ∧
    Fit (feedI R g i key load k T).1 (feedI R g i key load k T).2 ∧ (feedI R g i key load k T).2.ws.length ≤ 900
  | 0 => ⟨rfl, rfl, rfl, rfl, h, hw⟩
  | k + 1 => by
    obtain ⟨h1, h2, h3, h4, h5, h6⟩ := feedI_facts h hw k
    obtain ⟨h7, h8⟩ := feed1_fit (R := R) (g := g) (i := i) (key := key) (load := load) h5 h6
    refine ⟨h1, h2, h3, ?_, h7, h8⟩
    show (feedI R g i key load k T).1.seq + 1 + 1 = _
    rw [h4]; omega
theorem secs_count {n g : Nat} {i : Fin 7} (h : 7 * g + i.val < roomN n) : (secs n g).count i = 1 := by
  have hm : i ∈ secs n g := by
    unfold secs
    rw [List.mem_take_iff_getElem]
    exact ⟨i.val, by simp; have := i.isLt; omega, by simp⟩
  have hnd : (secs n g).Nodup := ((List.nodup_finRange 7).sublist (List.take_sublist _ _))
  rw [hnd.count, if_pos hm]

/-- a log's text, of a cache's group -/
def logT (R : List Int) (S : Sc) (g : Nat) : ByteArray := encB R (S.seq + 1) (groupE S g (secs S.n g))
theorem groupE_okB {S : Sc} (hok : ∀ p x, S.M p = some x → p < roomN S.n ∧ OkEn x) (hseq : S.seq ≤ 950000) (g : Nat) : OkB (S.seq + 1) (groupE S g (secs S.n g)) := ⟨by omega, by
  have h1 := groupE_len S g (secs S.n g)
  have h2 := secs_length S.n g
  omega, groupE_ok hok g _⟩
section
variable {R : List Int} {w w0 : World} {s d b m q0 q1 q2 q3 sb gb g : Nat} {key load : ByteArray} {S : Sc} {D : Dv} {F G0 : List Nat}
theorem tell_st (h : Stt R w0 G0 q0 q1 q2 q3 sb gb g key load w s d b m S D F) (hfit : Fit S D) (hg : 7 * g < roomN S.n) (hseq : S.seq ≤ 950000) :
    Calls Tryd.prog 21 #[.pointer (some ⟨s, 0, none⟩), .int .i64 g] w fun e w' => e = .returned (.tuple #[]) ∧ ∃ F', Stt R w0 G0 q0 q1 q2 q3 sb gb g key load w' s d b m { S with seq := S.seq + 1 } (D.write 1 ((S.from' : Int) + 8 * g) (logT R S g)) F' := by
  have hn := h.c.sc.okn
  have hlg := log_in hg
  refine (tell_c R s d b m g S D F w h.c (by unfold roomN at hg; omega) (by omega) (by have := hfit.ws; omega) (hfit.may (by omega) (by omega) (encB_small _ _ _ (groupE_okB h.c.sc.okm hseq g)))).mono ?_
  rintro e w' ⟨rfl, F', hC, hU⟩
  exact ⟨rfl, F', h.next hC hU⟩
theorem flush_st (h : Stt R w0 G0 q0 q1 q2 q3 sb gb g key load w s d b m S D F) :
    Calls Tryd.prog 10 #[.pointer (some ⟨d, 0, none⟩)] w fun e w' => e = .returned (.int .i64 0) ∧ ∃ F', Stt R w0 G0 q0 q1 q2 q3 sb gb g key load w' s d b m S D.flush F' := by
  refine (flush_c R s d b m S D F w h.c).mono ?_
  rintro e w' ⟨rfl, F', hC, hU⟩
  exact ⟨rfl, F', h.next hC hU⟩
theorem write_st (h : Stt R w0 G0 q0 q1 q2 q3 sb gb g key load w s d b m S D F) (hfit : Fit S D) (a : Nat) (ha : a < S.from' + S.n) (t : ByteArray) (ht : t.size ≤ 1024) :
    Calls Tryd.prog 22 #[.pointer (some ⟨d, 0, none⟩), .agg #[.int .i64 1, .int .i64 a], .string t] w fun e w' => e = .returned (.int .i64 0) ∧ ∃ F', Stt R w0 G0 q0 q1 q2 q3 sb gb g key load w' s d b m S (D.write 1 a t) F' := by
  refine (write_c R s d b m S D F 1 a t w h.c (hfit.may (by omega) (by omega) ht) (by have := hfit.ws; omega)).mono ?_
  rintro e w' ⟨rfl, F', hC, hU⟩
  exact ⟨rfl, F', h.next hC hU⟩
theorem drop_st (h : Stt R w0 G0 q0 q1 q2 q3 sb gb g key load w s d b m S D F) (p : Nat) (hp : p ≤ 1000000) (ty : TypeId) :
    ∃ w', (Builtin.delete_ #[53, 3] ty #[.map (some b), .int .i64 p]).run Tryd.prog w = .ok (.tuple #[]) w' ∧ Stt R w0 G0 q0 q1 q2 q3 sb gb g key load w' s d b m { S with M := dropM S.M p } D F := by
  obtain ⟨w', hr, hC, hU⟩ := drop_c h.c p hp ty
  exact ⟨w', hr, h.next hC hU⟩
theorem set_st (h : Stt R w0 G0 q0 q1 q2 q3 sb gb g key load w s d b m S D F) (p : Nat) (x : En) (hp : p < roomN S.n) (hx : OkEn x) (hm : m ≤ 1000000) :
    ∃ w', (Instr.mapUpdate 53 (.map (some b)) (.int .i64 p) (.agg #[.string x.key, .string x.sum, .int .i64 x.len, .int .i64 x.at'])).run Tryd.prog w = .ok () w' ∧ Stt R w0 G0 q0 q1 q2 q3 sb gb g key load w' s d b (m + 1) { S with M := setM S.M p x } D F := by
  obtain ⟨w', hr, hC, hU⟩ := set_c h.c p x hp hx hm
  exact ⟨w', hr, h.next hC hU⟩
end
/-- one round leaves alone what the loop wants left alone -/
theorem round_keeps {R : List Int} {wL W W' : World} {s d b m m' q0 q1 q2 q3 sb gb g : Nat} {key load : ByteArray} {S S' : Sc} {D D' : Dv} {F F' G0 : List Nat} (h : Stt R wL G0 q0 q1 q2 q3 sb gb g key load W s d b m S D F) (h' : Stt R W (s :: b :: F) q0 q1 q2 q3 sb gb g key load W' s d b m' S' D' F') (hs : s < wL.heap.size) (hb : b < wL.heap.size) : KeepsFrom wL.heap.size W W' :=
  Upd.keepsFrom h'.u (fun k hk => by
    simp only [List.mem_cons] at hk
    rcases hk with rfl | rfl | hk
    · exact .inl hs
    · exact .inl hb
    · exact .inr (h.c.dv.cells k hk))
theorem Stt.rebase {R : List Int} {w0 W W' : World} {s d b m m' q0 q1 q2 q3 sb gb g : Nat} {key load : ByteArray} {S S' : Sc} {D D' : Dv} {F F' G0 : List Nat} (h : Stt R w0 G0 q0 q1 q2 q3 sb gb g key load W s d b m S D F) (h' : Stt R W (s :: b :: F) q0 q1 q2 q3 sb gb g key load W' s d b m' S' D' F') : Stt R w0 G0 q0 q1 q2 q3 sb gb g key load W' s d b m' S' D' F' :=
  ⟨h'.c, h'.x, h.u.trans h'.u, h'.n⟩
section
variable {R : List Int} {w W : World} {s d b m Dd : Nat} {S : Sc} {D : Dv} {F F' : List Nat}
theorem Cach.same {W' : World} (h : Cach R W s d b m S D F) (he : ∀ (k : Nat) (o : Obj), W.heap[k]? = some o → (∀ x, o ≠ .deferred x) → W'.heap[k]? = W.heap[k]?) : Cach R W' s d b m S D F := by
  have hb : W'.heap[b]? = W.heap[b]? := by
    obtain ⟨DD, ⟨es, ck, h1, _⟩, _⟩ := h.sc.mp
    exact he b _ h1 (fun x e => by cases e)
  refine ⟨h.sc.heap (he s _ h.sc.blk (fun x e => by cases e)) hb, h.dv.heap (fun k hk => by obtain ⟨cs, T, fz, hx⟩ := h.dv.cells k hk; exact he k _ hx (fun x e => by cases e)), ?_, h.sF, h.rF, h.sR⟩
  have h0 := h.rt 0 (by omega)
  refine h.rt.heap ?_
  simp only [World.cell?] at h0
  split at h0
  · rename_i cs T fz hk
    exact he _ _ hk (fun x e => by cases e)
  all_goals cases h0
theorem Cach.putObj (h : Cach R W s d b m S D F) {x : Option (List Deferred)} (hD : W.heap[Dd]? = some (.deferred x)) (o : Obj) : Cach R (W.putObj Dd o) s d b m S D F :=
  h.same (fun k o' hk hn => World.putObj_heap_other (fun e => by rw [e, hD] at hk; cases hk; exact hn _ rfl))
theorem Upd.putObj (h : Upd F w F' W) (hD : w.heap.size ≤ Dd) (o : Obj) : Upd F w F' (W.putObj Dd o) :=
  ⟨h.os, h.tape, h.output, by simp [World.putObj]; exact h.size, fun k hk hF => (World.putObj_heap_other (show k ≠ Dd by omega)).trans (h.block k hk hF), h.new⟩
theorem Cach.hand (h : Cach R w s d b m S D F) (h2 : Nat) : Cach R (w.setCell ⟨s, 5, none⟩ (.int .i64 h2)) s d b m { S with hand := h2 } D F := by
  refine ⟨⟨?_, h.sc.mp.heap (heap_set_ne _ _ _ _ _ h.bs), h.sc.okn, h.sc.okf, h.sc.okm⟩, h.dv.heap (fun k hk => heap_set_ne _ _ _ _ _ (fun e => h.sF (e ▸ hk))), h.rt.heap (heap_set_ne _ _ _ _ _ (Ne.symm h.sR)), h.sF, h.rF, h.sR⟩
  rw [heap_set_eq _ _ _ _ h.sc.blk]; simp
end
/-- a feeding of a new key -/
def feedN (R : List Int) (key load : ByteArray) (T : Sc × Dv) : Sc × Dv :=
  ({ (feed1 R (T.1.hand / 7) ⟨T.1.hand % 7, by omega⟩ key load T).1 with hand := (T.1.hand + 1) % roomN T.1.n }, (feed1 R (T.1.hand / 7) ⟨T.1.hand % 7, by omega⟩ key load T).2)
end Go.Proofs.YtbhokalnkfdekaaDoor
