/- Package second: load. -/
import Derived.Test.YtbhokalnkfdekaaDoorSecj
namespace Go.Proofs.YtbhokalnkfdekaaDoor
open Go.RowKit
open Go.Proofs Go.Shelf Go.Maps
attribute [local go_sem] Oper.semAt_some

theorem loadS {s d f : Nat} {w w' : World} (hk : Kept w w') (h : w.cell? ⟨s, 0, none⟩ = some (.pointer (some ⟨d, 0, none⟩)) ∧ w.cell? ⟨s, 1, none⟩ = some (.int .i64 f)) : w'.cell? ⟨s, 0, none⟩ = some (.pointer (some ⟨d, 0, none⟩)) ∧ w'.cell? ⟨s, 1, none⟩ = some (.int .i64 f) := by
  obtain ⟨h0, h1⟩ := h
  have l0 := World.block_lt_of_cell? w _ h0
  exact ⟨(hk.cell l0).trans h0, (hk.cell (p := ⟨s, 1, none⟩) l0).trans h1⟩

set_option maxRecDepth 100000 in
set_option maxHeartbeats 2000000 in
theorem load_short (s d b m g : Nat) (S : Sc) (D : Dv) (F : List Nat) (w : World) (h : IsSc w s d b m S) (hd : Devs w d D F) (hg : g ≤ 512) (hv : D.valid 1 ((S.from' : Int) + 8 * g)) (hl : D.lost 1 = false) (hws : D.ws.length ≤ 1000000000) (ht : (D.get 1 ((S.from' : Int) + 8 * g)).size < 41) :
    Calls Tryd.prog 17 #[.pointer (some ⟨s, 0, none⟩), .int .i64 g] w fun e w' => e = .returned (.tuple #[.agg #[.int .i64 0, .slice none 0 0], .bool false]) ∧ Kept w w' := by
  have c0 := h.c0
  have c1 := h.c1
  have hlt := lt_blk h.blk
  have hfo := h.okf
  obtain ⟨t, htt⟩ : ∃ t, D.get 1 ((S.from' : Int) + 8 * g) = t := ⟨_, rfl⟩
  rw [htt] at ht
  have HD := Lib.hid hd
  have HV := Lib.hid hv
  have HL := Lib.hid hl
  have HT := Lib.hid htt
  clear h hd hv hl htt
  go_enter Tryd.func17, Tryd.ntmps17
  go_wp2_with fail
  obtain ⟨w1, hw1⟩ : ∃ w1, w.alloc (.cells #[.int .i64 0, .slice none 0 0] 57) = w1 := ⟨_, rfl⟩
  have hA := alloc1 w (.cells #[.int .i64 0, .slice none 0 0] 57)
  rw [hw1] at hA ⊢
  obtain ⟨a0, hk1, hz1⟩ := hA
  have hkd : Kept w1 w1.drew := (Below.refl _ _).drew
  have hS := loadS (Kept.trans hk1 hkd) ⟨c0, c1⟩
  have hD1 : Devs w1.drew d D F := HD.out.kept (Kept.trans hk1 hkd)
  have HK1 := Lib.hid hk1
  have HKD := Lib.hid (Kept.trans hk1 hkd)
  have A0 := Lib.hid a0
  clear hw1 a0 hk1 c0 c1 hkd
  go_region_held3 (fun w' => w'.cell? ⟨s, 0, none⟩ = some (.pointer (some ⟨d, 0, none⟩)) ∧ w'.cell? ⟨s, 1, none⟩ = some (.int .i64 S.from')) (first | assumption | exact loadS (by assumption) (by assumption))
    (first
      | (go_at_call 34; refine (log_any s S.from' g _ hfo hg (And.right (by assumption))).mono ?_; rintro e w' ⟨rfl, hkl⟩; have hDl : Devs w' d D F := Devs.kept (by assumption) hkl)
      | (go_at_call 14; refine (read_ok d D F 1 _ _ (by assumption) HV.out HL.out hws).mono ?_; rintro e w' ⟨rfl, hkr⟩))
  rw [HT.out]
  have hkw : Kept w1 w' := Kept.trans (Below.drew (Below.refl _ _)) (Kept.trans hkl hkr)
  have hdec := decode_short t w' ht
  have HDEC := Lib.hid hdec
  have HKW := Lib.hid hkw
  clear hdec hkw hkl hkr
  go_wp2_with fail
  refine HDEC.out.mono ?_
  rintro e w2 ⟨rfl, hk2⟩
  have hkk := Kept.trans HKW.out hk2
  have q0 : w2.heap[w.heap.size]? = some (.cells #[.int .i64 0, .slice none 0 0] 57) := (hkk.heap (by omega)).trans A0.out
  have hlt2 : w.heap.size < w2.heap.size := by have := hkk.size; omega
  have y0 : w2.cell? ⟨w.heap.size, 0, none⟩ = some (.int .i64 0) := by rw [cell_blk q0]; rfl
  have y1 : w2.cell? ⟨w.heap.size, 1, none⟩ = some (.slice none 0 0) := by rw [cell_blk q0]; rfl
  have f0 : w2.frozen? ⟨w.heap.size, 0, none⟩ = false := frozen_blk q0
  have f1 : w2.frozen? ⟨w.heap.size, 1, none⟩ = false := frozen_blk q0
  have HKK := Lib.hid hkk
  clear hkk hk2 q0 HDEC
  go_wp2
  refine bodyPost_ret (v := .tuple #[.agg #[.int .i64 0, .slice none 0 0], .bool false]) (by simp [results, Tryd.results17, go_sem, *]) rfl ⟨rfl, ?_⟩
  have hb : Below w.heap.size w w2 := Kept.trans HK1.out HKK.out
  have hz := hb.size
  exact (by repeat (first | exact Below.refl _ _ | assumption | refine Below.drewN ?_ _ | refine Below.drew ?_ | (refine Below.alloc' _ ?_ ?_; (focus ((first | omega | (simp; done) | (simp; omega))))) | (refine Below.setCell' _ ?_ ?_; (focus ((first | omega | (simp; done) | (simp; omega)))))))

theorem set6_kept {s q10 qx : Nat} {v0 v1 v2 v3 v4 v5 : Value} {G G' : List Nat} {w w' : World} (hu : Upd G w G' w') (h1 : s ∉ G) (h2 : q10 ∉ G) (h3 : qx ∉ G) (h : w.cell? ⟨s, 3, none⟩ = some v0 ∧ w.cell? ⟨q10, 0, none⟩ = some v1 ∧ w.cell? ⟨qx, 0, none⟩ = some v2 ∧ w.cell? ⟨qx, 1, none⟩ = some v3 ∧ w.cell? ⟨qx, 2, none⟩ = some v4 ∧ w.cell? ⟨qx, 3, none⟩ = some v5) :
    w'.cell? ⟨s, 3, none⟩ = some v0 ∧ w'.cell? ⟨q10, 0, none⟩ = some v1 ∧ w'.cell? ⟨qx, 0, none⟩ = some v2 ∧ w'.cell? ⟨qx, 1, none⟩ = some v3 ∧ w'.cell? ⟨qx, 2, none⟩ = some v4 ∧ w'.cell? ⟨qx, 3, none⟩ = some v5 := by
  obtain ⟨k0, k1, k2, k3, k4, k5⟩ := h
  have l0 := World.block_lt_of_cell? w _ k0
  have l1 := World.block_lt_of_cell? w _ k1
  have l2 := World.block_lt_of_cell? w _ k2
  have e := fun k off (hk : k < w.heap.size) (hn : k ∉ G) => World.cell?_of_block (a := ⟨k, off, none⟩) (hu.block k hk hn)
  exact ⟨(e _ _ l0 h1).trans k0, (e _ _ l1 h2).trans k1, (e _ _ l2 h3).trans k2, (e _ _ l2 h3).trans k3, (e _ _ l2 h3).trans k4, (e _ _ l2 h3).trans k5⟩
def ownM (f g : Nat) (l : List (Fin 7)) : Int → Option Value := l.foldl (fun M x => upd M ((f + 8 * g + 1 + x.val : Nat) : Int) (some (.int .i64 (7 * g + x.val : Nat)))) (fun _ => none)
theorem ownM_snoc (f g : Nat) (l : List (Fin 7)) (x : Fin 7) : ownM f g (l ++ [x]) = upd (ownM f g l) ((f + 8 * g + 1 + x.val : Nat) : Int) (some (.int .i64 (7 * g + x.val : Nat))) := by simp [ownM]
theorem ownM_gen (f g : Nat) (i : Fin 7) : ∀ (l : List (Fin 7)) (M : Int → Option Value), (l.foldl (fun M x => upd M ((f + 8 * g + 1 + x.val : Nat) : Int) (some (.int .i64 (7 * g + x.val : Nat)))) M) ((f + 8 * g + 1 + i.val : Nat) : Int) = if i ∈ l then some (.int .i64 (7 * g + i.val : Nat)) else M ((f + 8 * g + 1 + i.val : Nat) : Int)
  | [], M => by simp
  | x :: l, M => by
    rw [List.foldl_cons, ownM_gen f g i l]
    by_cases hl : i ∈ l
    · simp [hl]
    · rw [if_neg hl]
      by_cases hx : i = x
      · subst hx; simp [upd]
      · have : ¬ ((f + 8 * g + 1 + i.val : Nat) : Int) = ((f + 8 * g + 1 + x.val : Nat) : Int) := fun e => hx (Fin.ext (by omega))
        simp only [upd, if_neg this]
        simp [hx, hl]
theorem ownM_mem (f g : Nat) (l : List (Fin 7)) (i : Fin 7) : ownM f g l ((f + 8 * g + 1 + i.val : Nat) : Int) = if i ∈ l then some (.int .i64 (7 * g + i.val : Nat)) else none := ownM_gen f g i l _

theorem alloc5 (w : World) (A B C E G : Obj) (W : World) (hW : ((((w.alloc A).alloc B).alloc C).alloc E).alloc G = W) : W.heap[w.heap.size]? = some A ∧ W.heap[w.heap.size + 1]? = some B ∧ W.heap[w.heap.size + 1 + 1]? = some C ∧ W.heap[w.heap.size + 1 + 1 + 1]? = some E ∧ W.heap[w.heap.size + 1 + 1 + 1 + 1]? = some G ∧
    Kept w W ∧ W.heap.size = w.heap.size + 5 := by
  obtain ⟨a0, a1, a2, hk, hz⟩ := alloc3 w A B C
  obtain ⟨W3, hW3⟩ : ∃ W3, ((w.alloc A).alloc B).alloc C = W3 := ⟨_, rfl⟩
  rw [hW3] at a0 a1 a2 hk hz hW
  have k4 := heap_alloc_old W3 E
  have k5 := heap_alloc_old (W3.alloc E) G
  rw [hW, World.size_alloc] at k5
  have e4 := heap_alloc_new' W3 E
  have e5 := heap_alloc_new' (W3.alloc E) G
  rw [hW, World.size_alloc] at e5
  refine ⟨?_, ?_, ?_, ?_, ?_, ?_, ?_⟩
  · rw [k5 _ (by omega), k4 _ (by omega)]; exact a0
  · rw [k5 _ (by omega), k4 _ (by omega)]; exact a1
  · rw [k5 _ (by omega), k4 _ (by omega)]; exact a2
  · rw [k5 _ (by omega)]; rw [hz] at e4; exact e4
  · rw [hz] at e5; exact e5
  · rw [← hW]; exact (hk.alloc hk.size _).alloc (by have := hk.size; simp; omega) _
  · rw [← hW]; simp [hz]

theorem Sees.upd {s gb sb f n g : Nat} {w w' : World} {G G' : List Nat} (h : Sees s gb sb f n g w) (hu : Upd G w G' w') (h1 : s ∉ G) (h2 : gb ∉ G) (h3 : sb ∉ G) : Sees s gb sb f n g w' := by
  obtain ⟨k1, k2, k3, k4⟩ := h
  have l1 := World.block_lt_of_cell? w _ k1
  have l3 := World.block_lt_of_cell? w _ k3
  have l4 := World.block_lt_of_cell? w _ k4
  exact ⟨(World.cell?_of_block (a := ⟨s, 1, none⟩) (hu.block s l1 h1)).trans k1, (World.cell?_of_block (a := ⟨s, 2, none⟩) (hu.block s l1 h1)).trans k2, (World.cell?_of_block (a := ⟨gb, 0, none⟩) (hu.block gb l3 h2)).trans k3, (World.cell?_of_block (a := ⟨sb, 0, none⟩) (hu.block sb l4 h3)).trans k4⟩
theorem Mp.empty {w : World} {b : Nat} (h : w.heap[b]? = some (.map #[] 0)) : Mp w b 0 (fun _ => none) := by
  obtain ⟨D, ⟨es, ck, hb, F, hs, hD⟩, hM⟩ := Mp.made w
  rw [heap_alloc_new'] at hb
  cases hb
  exact ⟨D, ⟨_, _, h, F, hs, hD⟩, hM⟩

/-- an entry's place in its group -/
def placeOf (f g : Nat) (x : En) : Nat := 7 * g + (x.at' - (f + 8 * g + 1))
def loadM (f g : Nat) (M : Nat → Option En) (l : List En) : Nat → Option En := l.foldl (fun M x => setM M (placeOf f g x) x) M
theorem loadM_snoc (f g : Nat) (M : Nat → Option En) (l : List En) (x : En) : loadM f g M (l ++ [x]) = setM (loadM f g M l) (placeOf f g x) x := by simp [loadM]
/-- entries of one group -/
def OwnE (f n g : Nat) (x : En) : Prop := ∃ i : Fin 7, i ∈ secs n g ∧ x.at' = f + 8 * g + 1 + i.val
theorem OwnE.place {f n g : Nat} {x : En} (h : OwnE f n g x) : placeOf f g x < roomN n ∧ ownM f g (secs n g) (x.at' : Int) = some (.int .i64 (placeOf f g x : Nat)) := by
  obtain ⟨i, hi, e⟩ := h
  have hp : placeOf f g x = 7 * g + i.val := by unfold placeOf; omega
  rw [hp, e, ownM_mem, if_pos hi]
  refine ⟨?_, rfl⟩
  unfold secs at hi
  obtain ⟨k, hk, hke⟩ := List.mem_take_iff_getElem.1 hi
  simp at hke
  subst hke
  simp at hk ⊢
  omega
theorem loadM_ok {f g n : Nat} : ∀ {l : List En} {M : Nat → Option En}, (∀ x ∈ l, placeOf f g x < roomN n ∧ OkEn x) → (∀ p x, M p = some x → p < roomN n ∧ OkEn x) → ∀ p x, loadM f g M l p = some x → p < roomN n ∧ OkEn x
  | [], M, _, hM, p, x, h => hM p x h
  | y :: l, M, hl, hM, p, x, h => by
    refine loadM_ok (l := l) (M := setM M (placeOf f g y) y) (fun z hz => hl z (by simp [hz])) (fun q z hz => ?_) p x h
    unfold setM at hz
    split at hz
    · rename_i e; cases hz; rw [e]; exact hl y (by simp)
    · exact hM q z hz
end Go.Proofs.YtbhokalnkfdekaaDoor
