/- Package second: tell. -/
import Derived.Test.YtbhokalnkfdekaaDoorSecc
import Derived.Test.YtbhokalnkfdekaaDoorDevf
namespace Go.Proofs.YtbhokalnkfdekaaDoor
open Go.RowKit
open Go.Proofs Go.Shelf Go.Maps
attribute [local go_sem] Oper.semAt_some

theorem IsSc.seqUp {w w' : World} {s d b m : Nat} {S : Sc} (h : IsSc w s d b m S) (hw : w' = w.setCell ⟨s, 4, none⟩ (.int .i64 (S.seq + 1))) : IsSc w' s d b m { S with seq := S.seq + 1 } := by
  subst hw
  have hsb : b ≠ s := by
    intro e
    obtain ⟨D, ⟨es, ck, hb, _⟩, _⟩ := h.mp
    rw [e, h.blk] at hb
    cases hb
  refine ⟨?_, h.mp.heap (heap_set_ne _ _ _ _ _ hsb), h.okn, h.okf, h.okm⟩
  rw [heap_set_eq _ _ _ _ h.blk]
  simp

theorem tell_start (s d b m g : Nat) (S : Sc) (w : World) (h : IsSc w s d b m S) (wL : World)
    (hw : (((((w.setCell ⟨s, 4, none⟩ (.int .i64 (S.seq + 1))).alloc (.cells #[.pointer (some ⟨s, 0, none⟩)] 27)).alloc (.cells #[.int .i64 (S.seq + 1), .slice none 0 0] 57)).alloc (.cells #[.pointer (some ⟨s, 0, none⟩)] 27)).alloc (.cells #[.int .i64 g] 3)) = wL) :
    wL.heap.size = w.heap.size + 4 ∧ IsSc wL s d b m { S with seq := S.seq + 1 } ∧ wL.heap[w.heap.size + 1]? = some (.cells #[.int .i64 (S.seq + 1), .slice none 0 0] 57 (0, 0)) ∧
    wL.heap[w.heap.size]? = some (.cells #[.pointer (some ⟨s, 0, none⟩)] 27 (0, 0)) ∧ Sees s (w.heap.size + 3) (w.heap.size + 2) S.from' S.n g wL ∧ Upd [s] w [s] wL := by
  obtain ⟨w1, hw1⟩ : ∃ w1, w1 = w.setCell ⟨s, 4, none⟩ (.int .i64 (S.seq + 1)) := ⟨_, rfl⟩
  have hz1 : w1.heap.size = w.heap.size := by rw [hw1]; exact size_set _ _ _
  have h1 := h.seqUp hw1
  have hu1 : Upd [s] w [s] w1 := by rw [hw1]; exact (Upd.refl _ _).setCell (.inl (by simp)) _
  rw [← hw1] at hw
  have hk : Kept w1 wL := by rw [← hw]; exact (by repeat (first | exact Below.refl _ _ | assumption | refine Below.drewN ?_ _ | refine Below.drew ?_ | (refine Below.alloc' _ ?_ ?_; (focus ((first | omega | (simp; done) | (simp; omega))))) | (refine Below.setCell' _ ?_ ?_; (focus ((first | omega | (simp; done) | (simp; omega)))))))
  have hIL := h1.kept hk
  have e0 : wL.heap[w1.heap.size]? = some (.cells #[.pointer (some ⟨s, 0, none⟩)] 27 (0, 0)) := by
    rw [← hw, heap_alloc_old _ _ _ (by first | (simp; done) | (simp; omega)), heap_alloc_old _ _ _ (by first | (simp; done) | (simp; omega)), heap_alloc_old _ _ _ (by simp)]; exact heap_alloc_new' _ _
  have e1 : wL.heap[w1.heap.size + 1]? = some (.cells #[.int .i64 (S.seq + 1), .slice none 0 0] 57 (0, 0)) := by
    rw [← hw, heap_alloc_old _ _ _ (by first | (simp; done) | (simp; omega)), heap_alloc_old _ _ _ (by simp)]
    have := heap_alloc_new' (w1.alloc (.cells #[.pointer (some ⟨s, 0, none⟩)] 27)) (.cells #[.int .i64 (S.seq + 1), .slice none 0 0] 57)
    simpa using this
  have e2 : wL.heap[w1.heap.size + 2]? = some (.cells #[.pointer (some ⟨s, 0, none⟩)] 27 (0, 0)) := by
    rw [← hw, heap_alloc_old _ _ _ (by simp)]
    have := heap_alloc_new' ((w1.alloc (.cells #[.pointer (some ⟨s, 0, none⟩)] 27)).alloc (.cells #[.int .i64 (S.seq + 1), .slice none 0 0] 57)) (.cells #[.pointer (some ⟨s, 0, none⟩)] 27)
    simpa using this
  have e3 : wL.heap[w1.heap.size + 3]? = some (.cells #[.int .i64 g] 3 (0, 0)) := by
    rw [← hw]
    have := heap_alloc_new' (((w1.alloc (.cells #[.pointer (some ⟨s, 0, none⟩)] 27)).alloc (.cells #[.int .i64 (S.seq + 1), .slice none 0 0] 57)).alloc (.cells #[.pointer (some ⟨s, 0, none⟩)] 27)) (.cells #[.int .i64 g] 3)
    simpa using this
  rw [hz1] at e0 e1 e2 e3
  refine ⟨by rw [← hw]; simp [hz1], hIL, e1, e0, ⟨hIL.c1, hIL.c2, by rw [cell_blk e3]; rfl, by rw [cell_blk e2]; rfl⟩, hu1.trans (Kept.upd hk)⟩

theorem Sees.below {s gb sb f n g : Nat} {w w' : World} (h : Sees s gb sb f n g w) (hk : Below w.heap.size w w') : Sees s gb sb f n g w' := h.kept hk
theorem seesK_b {s gb sb f n g : Nat} {w : World} (h : Sees s gb sb f n g w) (W : World) (l : Nat) (o o' : Obj) (hl : w.heap.size ≤ l) (ho : W.heap[l]? = some o) (_ : o.isCells = false) (_ : o.isWalk = false) : SeesK s gb sb f n g W (W.putObj l o') := by
  obtain ⟨h1, h2, h3, h4⟩ := h
  have l1 := World.block_lt_of_cell? w _ h1
  have l3 := World.block_lt_of_cell? w _ h3
  have l4 := World.block_lt_of_cell? w _ h4
  simp only at l1 l3 l4
  rintro ⟨k1, k2, k3, k4⟩
  have e : ∀ k off, k < w.heap.size → (W.putObj l o').cell? ⟨k, off, none⟩ = W.cell? ⟨k, off, none⟩ := fun k off hk => World.cell?_of_block (a := ⟨k, off, none⟩) (World.putObj_heap_other (show k ≠ l by omega))
  exact ⟨(e _ _ l1).trans k1, (e _ _ l1).trans k2, (e _ _ l3).trans k3, (e _ _ l4).trans k4⟩

theorem tell_ne {wL : World} {s d b m bb : Nat} {S : Sc} {cs : Array Value} {T : TypeId} {fz : Nat × Nat} (h : IsSc wL s d b m S) (hb : wL.heap[bb]? = some (.cells cs T fz)) : ¬ b = bb := by
  intro e
  obtain ⟨D, ⟨es, ck, h1, _⟩, _⟩ := h.mp
  rw [e, hb] at h1
  cases h1

theorem Upd.grown {F : List Nat} {w w' : World} {row : Option Nat} (hg : w.grownBy w' row) (hr : ∀ k, row = some k → k ∈ F) : Upd F w F w' :=
  ⟨hg.os, hg.tape, hg.output, hg.size, fun k hk hF => hg.block k hk (fun e => hF (hr k e.symm)), fun k hk => .inl hk⟩

theorem Row.isCells {w : World} {base : Nat} {v : Value} {l : List En} (h : Row w base v l) (k : Nat) (hk : v.ownBlock = some k) : ∃ cs T fz, w.heap[k]? = some (Obj.cells cs T fz) := by
  rcases h.2 with ⟨e, _⟩ | ⟨g, c, cur, e, _, hg, _⟩
  · rw [e] at hk; cases hk
  · rw [e] at hk; cases hk; exact ⟨_, _, _, hg⟩

def TellS (s d f q : Nat) (w : World) : Prop := w.cell? ⟨q, 0, none⟩ = some (.pointer (some ⟨s, 0, none⟩)) ∧ w.cell? ⟨s, 0, none⟩ = some (.pointer (some ⟨d, 0, none⟩)) ∧ w.cell? ⟨s, 1, none⟩ = some (.int .i64 f)
theorem tell_S {s d f q : Nat} {w w' : World} (hk : Kept w w') (h : TellS s d f q w) : TellS s d f q w' := by
  obtain ⟨h1, h2, h3⟩ := h
  have l1 := World.block_lt_of_cell? w _ h1
  have l2 := World.block_lt_of_cell? w _ h2
  exact ⟨(hk.cell l1).trans h1, (hk.cell (p := ⟨s, 0, none⟩) l2).trans h2, (hk.cell (p := ⟨s, 1, none⟩) l2).trans h3⟩
theorem tell_SU {s d f q : Nat} {F F' : List Nat} {w w' : World} (hu : Upd F w F' w') (hq : q ∉ F) (hs : s ∉ F) (h : TellS s d f q w) : TellS s d f q w' := by
  obtain ⟨h1, h2, h3⟩ := h
  have l1 := World.block_lt_of_cell? w _ h1
  have l2 := World.block_lt_of_cell? w _ h2
  exact ⟨(World.cell?_of_block (a := ⟨q, 0, none⟩) (hu.block q l1 hq)).trans h1, (World.cell?_of_block (a := ⟨s, 0, none⟩) (hu.block s l2 hs)).trans h2, (World.cell?_of_block (a := ⟨s, 1, none⟩) (hu.block s l2 hs)).trans h3⟩
theorem tell_S2 {s d f q : Nat} {w : World} (h : w.cell? ⟨q, 0, none⟩ = some (.pointer (some ⟨s, 0, none⟩)) ∧ w.cell? ⟨s, 0, none⟩ = some (.pointer (some ⟨d, 0, none⟩)) ∧ w.cell? ⟨s, 1, none⟩ = some (.int .i64 f)) : w.cell? ⟨s, 1, none⟩ = some (.int .i64 f) := h.2.2

/-- tell's loop -/
def TellI (wL : World) (bb : Nat) (S : Sc) (g : Nat) (pre : List (Fin 7)) (W : World) : Prop :=
  ∃ v, W.heap[bb]? = some (.cells #[.int .i64 (S.seq + 1), v] 57 (0, 0)) ∧ Row W wL.heap.size v (groupE S g pre) ∧ Upd [bb] wL [bb] W
theorem tellI_own (wL : World) (bb : Nat) (S : Sc) (g : Nat) : OwnFrom wL.heap.size (TellI wL bb S g) := by
  rintro pre W W' row ⟨v, h1, h2, h3⟩ hg hr
  exact ⟨v, grown_cells h1 hg (fun r e => (hr r e).2), h2.grown hg (fun r e => (hr r e).2), ownFrom_upd (β := Unit) (Nat.le_refl _) () W W' row h3 hg hr⟩
theorem tellI_start {w wL : World} {bb : Nat} {S : Sc} {g : Nat} (hz : wL.heap.size = w.heap.size + 4) (hbb : w.heap.size + 1 = bb) (h : wL.heap[bb]? = some (.cells #[.int .i64 (S.seq + 1), .slice none 0 0] 57 (0, 0))) : TellI wL bb S g [] wL :=
  ⟨_, h, World.ownsRow_nil _ _ _ _, Upd.refl _ _⟩

set_option maxRecDepth 100000 in
set_option maxHeartbeats 4000000 in
theorem tell_any (R : List Int) (s d b m g : Nat) (S : Sc) (D : Dv) (F : List Nat) (w : World) (hR : Roots w R) (h : IsSc w s d b m S) (hd : Devs w d D F) (hsF : s ∉ F) (hsR : s ≠ 0) (hg : g ≤ 512) (hseq : S.seq < 1000000) (hws : D.ws.length + 1 ≤ 1000000000) (hmay : D.may 1 ((S.from' : Int) + 8 * g) (encB R (S.seq + 1) (groupE S g (secs S.n g))).size = 0) :
    Calls Tryd.prog 21 #[.pointer (some ⟨s, 0, none⟩), .int .i64 g] w fun e w' => e = .returned (.tuple #[]) ∧ ∃ F', IsSc w' s d b m { S with seq := S.seq + 1 } ∧ Devs w' d (D.write 1 ((S.from' : Int) + 8 * g) (encB R (S.seq + 1) (groupE S g (secs S.n g)))) F' ∧ Upd (s :: F) w (s :: F') w' := by
  have c0 := h.c0
  have c3 := h.c3
  have c4 := h.c4
  have fz := h.fz
  have hlt := lt_blk h.blk
  have H := Lib.hid h
  have HD := Lib.hid hd
  have HR := Lib.hid hR
  clear h hd hR
  refine (callsIn_wide (n := 9)).1 ?_
  refine callsIn_of_wp_marks Tryd.func21 rfl trivial ?_ rfl
  refine wpIn_wide.2 ?_
  simp only [Tryd.ntmps21, List.size_toArray, List.length_cons, List.length_nil, Nat.reduceAdd, Nat.reduceSub, Array.replicate_succ, Array.replicate_zero, List.push_toArray, List.append_toArray, List.nil_append, List.cons_append]
  go_wp2_with fail
  refine (sectors_any s g _).mono ?_
  rintro e w' ⟨rfl, rfl⟩
  go_wp2_with fail
  obtain ⟨wL, hwL⟩ : ∃ wL, (((((w.setCell ⟨s, 4, none⟩ (.int .i64 (S.seq + 1))).alloc (.cells #[.pointer (some ⟨s, 0, none⟩)] 27)).alloc (.cells #[.int .i64 (S.seq + 1), .slice none 0 0] 57)).alloc (.cells #[.pointer (some ⟨s, 0, none⟩)] 27)).alloc (.cells #[.int .i64 g] 3)) = wL := ⟨_, rfl⟩
  rw [hwL]
  have hT := tell_start s d b m g S w H.out wL hwL
  obtain ⟨hzL, hIL, hbbL, hsbL, hSL, hUL⟩ := hT
  have HWL := Lib.hid hwL
  clear hwL
  obtain ⟨bb, hbb⟩ : ∃ bb, w.heap.size + 1 = bb := ⟨_, rfl⟩
  obtain ⟨sb, hsb⟩ : ∃ sb, w.heap.size + 1 + 1 = sb := ⟨_, rfl⟩
  obtain ⟨gb, hgb⟩ : ∃ gb, w.heap.size + 1 + 1 + 1 = gb := ⟨_, rfl⟩
  have hgb' : w.heap.size + 3 = gb := by omega
  have hsb' : w.heap.size + 2 = sb := by omega
  rw [hgb, hsb, hbb]
  rw [hbb] at hbbL
  rw [hgb', hsb'] at hSL
  obtain ⟨i0, hi, hz0, hz1, hz2⟩ := info_parts Tryd.infoEn
  have hIok := hIL.okm
  have hseq' : SeqStopsK Fence.wide 8 Tryd.prog 36 #[.pointer (some ⟨gb, 0, none⟩), .pointer (some ⟨sb, 0, none⟩)] (encF S.from' g) (SeesK s gb sb S.from' S.n g) (fun ys => ys = secs S.n g) (fun pre => pre <+: secs S.n g) (secs S.n g).length wL :=
    fun l J Jx W hW hJ _ hY h0 => sectors1_in 8 l s gb sb S.from' S.n g _ (by omega) hIL.okf hIL.okn hg J Jx hJ hY W (hSL.below hW) h0
  refine (wpIn_wide (n := 9)).1 ?_
  refine wpIn_rangeFunc_ownH rfl (by omega) (gf := 36) (lb := #[.pointer (some ⟨gb, 0, none⟩), .pointer (some ⟨sb, 0, none⟩)]) rfl trivial (enters_of Tryd.func36 (by kernel_rfl) rfl) hseq' (fun h k x => k (h x)) (seesK_b hSL) (Below.refl _ _) (fun _ => rfl)
    (fun pre W => TellI wL bb S g pre W) (fun c _ _ => False)
    (tellI_own _ _ _ _) (fun _ _ _ _ _ hs _ _ => hs) (tellI_start hzL hbb hbbL)
    (fun x a' W => a' = { tmps := #[.pointer (some ⟨s, 0, none⟩), .int .i64 g, .pointer (some ⟨w.heap.size, 0, none⟩), undef, .pointer (some ⟨bb, 0, none⟩), .int .i64 (7 * g + x.val : Nat), undef, undef, undef, undef, .pointer (some ⟨s, 0, none⟩), .pointer (some ⟨s, 0, none⟩), .pointer (some ⟨s, 4, none⟩), .int .i64 S.seq, .int .i64 (S.seq + 1), .pointer (some ⟨s, 0, none⟩), .pointer (some ⟨s, 4, none⟩), .pointer (some ⟨s, 0, none⟩), .pointer (some ⟨s, 0, none⟩), .pointer (some ⟨s, 4, none⟩), .int .i64 (S.seq + 1), .agg #[.int .i64 (S.seq + 1), .slice none 0 0], .pointer (some ⟨s, 0, none⟩), .int .i64 g,
      .func (.func 36) #[] #[.pointer (some ⟨gb, 0, none⟩), .pointer (some ⟨sb, 0, none⟩)], .int .i64 (7 * g + x.val : Nat), .int .i64 (S.from' + 8 * g + 1 + x.val : Nat), undef, undef, undef, undef, undef, undef, undef, undef, undef, undef, undef, undef, undef, undef, undef, undef, undef, undef, undef, undef, undef, undef, undef, undef, undef, undef, undef, undef, undef, undef], defers := [] })
    (fun _ _ _ _ _ _ hs _ _ => hs)
    ?assign ?body ?done ?stop
  case assign =>
    rintro l pre x W K hI hK
    have HI := Lib.hid hI
    clear hI
    simp only [encF]
    gi_wp2
    exact hK _ _ (KeepsFrom.refl _ _) (fun h => h) HI.out rfl
  case body =>
    rintro l pre x a' W hl ⟨r, hr⟩ ⟨v, hb, hrow, hu⟩ rfl hlen
    obtain ⟨p, c, rfl⟩ := hrow.slice
    have hsW : W.heap[w.heap.size]? = _ := (hu.block _ (by omega) (by simp; omega)).trans hsbL
    have hsblk : W.heap[s]? = _ := (hu.block s (by omega) (by simp; omega)).trans hIL.blk
    have hmpW := hIL.mp.heap (hu.block b hIL.mp.lt (by simp; exact tell_ne hIL hbbL))
    have y0 : W.cell? ⟨w.heap.size, 0, none⟩ = some (.pointer (some ⟨s, 0, none⟩)) := by rw [cell_blk hsW]; rfl
    have y3 : W.cell? ⟨s, 3, none⟩ = some (.map (some b)) := by rw [cell_blk hsblk]; rfl
    have b1 : W.cell? ⟨bb, 1, none⟩ = some (.slice p (groupE S g pre).length c) := by rw [cell_blk hb]; rfl
    have bf : W.frozen? ⟨bb, 1, none⟩ = false := frozen_blk hb
    have hpx : Wf ((7 * g + x.val : Nat) : Int) := by have := x.isLt; unfold Wf; omega
    have hlook := hmpW.look_ok Tryd.underlying53 (Tryd.zeroValue69 W) hpx
    have ekey : ((7 * g + x.val : Nat) : Int) = 7 * (g : Int) + (x.val : Int) := by omega
    rw [mapV_nat, ekey] at hlook
    clear ekey
    have hbbW : bb < W.heap.size := lt_blk hb
    have HB := Lib.hid hb
    have HROW := Lib.hid hrow
    have HU := Lib.hid hu
    have HR' := Lib.hid hr
    clear hb hrow hu hr hsW hsblk hmpW
    cases hx : S.M (7 * g + x.val) with
    | none =>
      rw [hx] at hlook
      simp only [Option.map_none, Option.getD_none, Option.isSome_none] at hlook
      gi_wp2
      have hgr : groupE S g (pre ++ [x]) = groupE S g pre := by rw [groupE_snoc, hx]; simp
      refine ⟨(KeepsOthers.alloc _ _).from _, fun hs => hs.kept ((Below.refl _ _).alloc (Nat.le_refl _) _), _, (heap_alloc_old _ _ _ hbbW).trans HB.out, ?_, HU.out.alloc _⟩
      rw [hgr]
      exact HROW.out.alloc _
    | some e =>
      rw [hx] at hlook
      simp only [Option.map_some, Option.getD_some, Option.isSome_some, enV, enCells] at hlook
      have hgr : groupE S g (pre ++ [x]) = groupE S g pre ++ [e] := by rw [groupE_snoc, hx]; rfl
      have hgl : (groupE S g pre).length ≤ 7 := by
        have h1 := groupE_len S g pre
        have h2 := secs_length S.n g
        omega
      obtain ⟨W2, hW2⟩ : ∃ W2, (W.alloc (.cells (enCells e).toArray 69)).alloc (.cells (enCells e).toArray 69) = W2 := ⟨_, rfl⟩
      have hkW2 : Kept W W2 := by rw [← hW2]; exact (by repeat (first | exact Below.refl _ _ | assumption | refine Below.drewN ?_ _ | refine Below.drew ?_ | (refine Below.alloc' _ ?_ ?_; (focus ((first | omega | (simp; done) | (simp; omega))))) | (refine Below.setCell' _ ?_ ?_; (focus ((first | omega | (simp; done) | (simp; omega)))))))
      have hzW2 : W2.heap.size = W.heap.size + 2 := by rw [← hW2]; simp
      have hnew : W2.heap[W.heap.size + 1]? = some (.cells (enCells e).toArray 69 (0, 0)) := by
        rw [← hW2]
        have := heap_alloc_new' (W.alloc (.cells (enCells e).toArray 69)) (.cells (enCells e).toArray 69)
        simpa using this
      have hrow2 : Row W2 wL.heap.size (.slice p (groupE S g pre).length c) (groupE S g pre) := HROW.out.kept hkW2
      have hb2 : W2.heap[bb]? = _ := (hkW2.heap hbbW).trans HB.out
      have hlb := HU.out.size
      have HW2 := Lib.hid hW2
      have HKW2 := Lib.hid hkW2
      have HGR := Lib.hid hgr
      clear hW2 hkW2 hgr
      gi_wp2_with (gi_at_builtin; rw [show (W.alloc (.cells #[.string e.key, .string e.sum, .int .i64 e.len, .int .i64 e.at'] 69)).alloc (.cells #[.string e.key, .string e.sum, .int .i64 e.len, .int .i64 e.at'] 69) = W2 from HW2.out]; refine wpListIn_append_own _ rfl _ _ 45 rfl wL.heap.size 69 i0 _ 4 48 Tryd.underlying45 hi hz0 hz1 hz2 rfl (by decide) _ _ _ rfl hrow2 ⟨W.heap.size + 1, 0, none⟩ 1 1 (enCells e) rfl rfl (World.news_of_block (cs := (enCells e).toArray) hnew) (by simp [Value.oneCell', enCells]) (by unfold maxLen; omega) (by omega) (by omega) ?_)
      intro v' w2 hown' hgrow _
      have hob : ∀ k, (Value.slice p (groupE S g pre).length c).ownBlock = some k → wL.heap.size ≤ k := fun k hk => (World.ownsRow.lt hrow2 k hk).1
      have k0 := (hgrow.block bb (by omega) (fun e' => by have := hob bb e'.symm; omega)).trans hb2
      have k1 : w2.cell? ⟨bb, 1, none⟩ = some (.slice p (groupE S g pre).length c) := by rw [cell_blk k0]; rfl
      have kf : w2.frozen? ⟨bb, 1, none⟩ = false := frozen_blk k0
      obtain ⟨ao, n', cap, rfl⟩ : ∃ ao n' cap, v' = .slice ao n' cap := by
        rcases hown'.2 with ⟨hv, _⟩ | ⟨g', cap, cur, hv, _⟩
        · exact ⟨_, _, _, hv⟩
        · exact ⟨_, _, _, hv⟩
      have HOWN := Lib.hid hown'
      have HGROW := Lib.hid hgrow
      have K0 := Lib.hid k0
      clear hown' hgrow k0
      gi_wp2
      have hU2 : Upd (bb :: (Value.slice p (groupE S g pre).length c).ownBlock.toList) W (bb :: (Value.slice p (groupE S g pre).length c).ownBlock.toList) (w2.setCell ⟨bb, 1, none⟩ (.slice ao n' cap)) :=
        ((Kept.upd HKW2.out).trans (Upd.grown HGROW.out (fun k hk => by simp [hk]))).setCell (p := ⟨bb, 1, none⟩) (.inl (by simp)) _
      have hbbL' : bb < wL.heap.size := by omega
      have hE : ∀ k, k < wL.heap.size → k ≠ bb → (w2.setCell ⟨bb, 1, none⟩ (.slice ao n' cap)).heap[k]? = W.heap[k]? := fun k hk hkb => hU2.block k (by omega) (by
        intro hm
        rcases List.mem_cons.1 hm with h1 | h1
        · exact hkb h1
        · have := hob k (by simpa using h1); omega)
      refine ⟨hU2.keepsFrom ?_, ?_, .slice ao n' cap, ?_, ?_, ?_⟩
      · intro k hk
        rcases List.mem_cons.1 hk with h1 | h1
        · exact .inl (by omega)
        · exact .inr (Row.isCells HROW.out k (by simpa using h1))
      · rintro ⟨q1, q2, q3, q4⟩
        have hsl := lt_blk hIL.blk
        exact ⟨(World.cell?_of_block (a := ⟨s, 1, none⟩) (hE s hsl (by omega))).trans q1, (World.cell?_of_block (a := ⟨s, 2, none⟩) (hE s hsl (by omega))).trans q2,
          (World.cell?_of_block (a := ⟨gb, 0, none⟩) (hE gb (by omega) (by omega))).trans q3, (World.cell?_of_block (a := ⟨sb, 0, none⟩) (hE sb (by omega) (by omega))).trans q4⟩
      · rw [heap_set_eq _ _ _ _ K0.out]; simp
      · rw [HGR.out]
        have h1 : Row w2 wL.heap.size (.slice ao n' cap) (groupE S g pre ++ [e]) := by unfold Row; rw [esCells_snoc, List.length_append, hzL]; exact HOWN.out
        exact ownsRow_heap h1 (fun k hk => heap_set_ne _ _ _ _ _ (by have := (World.ownsRow.lt h1 k hk).1; omega))
      · exact ⟨hU2.os.trans HU.out.os, hU2.tape.trans HU.out.tape, hU2.output.trans HU.out.output, Nat.le_trans HU.out.size hU2.size, fun k hk hkF => (hE k hk (by simpa using hkF)).trans (HU.out.block k hk hkF), fun k hk => .inl hk⟩
  case stop =>
    rintro Dd cd pre W hD hSp h hK
    exact h.elim
  case done =>
    rintro Dd xs W hD hS ⟨v, hb, hrow, hu⟩ hK
    subst hS
    obtain ⟨p, c, rfl⟩ := hrow.slice
    have b0 : W.cell? ⟨bb, 0, none⟩ = some (.int .i64 (S.seq + 1)) := by rw [cell_blk hb]; rfl
    have b1 : W.cell? ⟨bb, 1, none⟩ = some (.slice p (groupE S g (secs S.n g)).length c) := by rw [cell_blk hb]; rfl
    have hsW : W.heap[w.heap.size]? = _ := (hu.block _ (by omega) (by simp; omega)).trans hsbL
    have hsblk : W.heap[s]? = _ := (hu.block s (by omega) (by simp; omega)).trans hIL.blk
    have y0 : W.cell? ⟨w.heap.size, 0, none⟩ = some (.pointer (some ⟨s, 0, none⟩)) := by rw [cell_blk hsW]; rfl
    have hokb : OkB (S.seq + 1) (groupE S g (secs S.n g)) := ⟨by omega, by
      have h1 := groupE_len S g (secs S.n g)
      have h2 := secs_length S.n g
      omega, groupE_ok hIok g _⟩
    have hRW : Roots W R := by
      have h1 := HR.out.lt
      exact (HR.out.heap (hUL.heap h1 (by simpa using fun e => hsR e.symm))).heap (hu.heap (by omega) (by simp; omega))
    have hcc := encode_ok R _ _ (S.seq + 1) (groupE S g (secs S.n g)) W hRW hrow hokb
    rw [show ((S.seq + 1 : Nat) : Int) = (S.seq : Int) + 1 from by omega] at hcc
    have HC := Lib.hid hcc
    clear hcc
    have HB := Lib.hid hb
    have HROW := Lib.hid hrow
    have HU := Lib.hid hu
    have HK := Lib.hid hK
    have HSW := Lib.hid hsW
    have HSB := Lib.hid hsblk
    clear hb hrow hu hK hsW hsblk hRW hseq'
    go_wp2_with fail
    refine HC.out.mono ?_
    rintro e w5 ⟨rfl, hk5⟩
    clear HC
    have hsl := lt_blk H.out.blk
    have hWz := HU.out.size
    have hd5 : Devs w5 d D F := HD.out.heap (fun k hk => by
      have hlt := HD.out.lt k hk
      have e1 := hUL.block k hlt (by simp; rintro rfl; exact hsF hk)
      have e2 := HU.out.block k (by omega) (by simp; omega)
      exact (hk5.heap (by omega)).trans (e2.trans e1))
    have x0 : w5.cell? ⟨w.heap.size, 0, none⟩ = some (.pointer (some ⟨s, 0, none⟩)) := by rw [hk5.cell (show w.heap.size < W.heap.size by omega)]; exact y0
    have hsb5 : w5.heap[s]? = _ := (hk5.heap (by omega)).trans HSB.out
    have x1 : w5.cell? ⟨s, 0, none⟩ = some (.pointer (some ⟨d, 0, none⟩)) := by rw [cell_blk hsb5]; rfl
    have x2 : w5.cell? ⟨s, 1, none⟩ = some (.int .i64 S.from') := by rw [cell_blk hsb5]; rfl
    have HD5 := Lib.hid hd5
    have HS5 := Lib.hid hsb5
    have HK5 := Lib.hid hk5
    clear hd5 hsb5 hk5
    have hkd : Kept w5 w5.drew := (Below.refl _ _).drew
    have hS0 := tell_S hkd (⟨x0, x1, x2⟩ : TellS s d S.from' w.heap.size w5)
    unfold TellS at hS0
    have hDd : Devs w5.drew d D F := HD5.out.kept hkd
    have hfo := hIL.okf
    have HMAY := Lib.hid hmay
    have hwsF : w.heap.size ∉ F := fun hm => by have := HD.out.lt _ hm; omega
    clear hmay
    go_wp2_with fail
    go_region_held3 (fun w' => w'.cell? ⟨w.heap.size, 0, none⟩ = some (.pointer (some ⟨s, 0, none⟩)) ∧ w'.cell? ⟨s, 0, none⟩ = some (.pointer (some ⟨d, 0, none⟩)) ∧ w'.cell? ⟨s, 1, none⟩ = some (.int .i64 S.from')) (first | assumption | exact tell_S (by assumption) (by assumption) | exact tell_SU (by assumption) hwsF hsF (by assumption))
      (first
        | (go_at_call 34; refine (log_any s S.from' g _ hfo hg (tell_S2 (by assumption))).mono ?_; rintro e w' ⟨rfl, hkl⟩; have hDl : Devs w' d D F := Devs.kept (by assumption) hkl)
        | (go_at_call 22; refine (write_any d D F _ _ _ _ (by assumption) HMAY.out hws).mono ?_; rintro e w' ⟨rfl, F', hDw, hUw⟩))
    have hDd' : w'.heap[Dd]? = some (.deferred (some [])) := by
      have e1 : Dd < W.heap.size := lt_blk HK.out
      have e2 := (Kept.trans HK5.out (Kept.trans hkd hkl))
      have e3 : Dd ∉ F := fun hm => by have := HD.out.lt _ hm; omega
      exact (hUw.block Dd (by have := e2.size; omega) e3).trans ((e2.heap e1).trans HK.out)
    refine ⟨by simp, .inl ⟨_, _, rfl, run_takeDeferred hDd', ?_⟩⟩
    have hk5l := Kept.trans hkd hkl
    have hz5 := HK5.out.size
    have hz6 := hk5l.size
    have hDdge : w.heap.size + 4 ≤ Dd := by omega
    have g1 : ∀ k, k < w5.heap.size → k ∉ F → k ≠ Dd → (w'.putObj Dd (.deferred none)).heap[k]? = w5.heap[k]? := fun k h1 h2 h3 =>
      (World.putObj_heap_other h3).trans ((hUw.block k (by omega) h2).trans (hk5l.heap h1))
    have g2 : ∀ k, k < wL.heap.size → k ≠ bb → w5.heap[k]? = wL.heap[k]? := fun k h1 h2 => (HK5.out.heap (by omega)).trans (HU.out.block k h1 (by simpa using h2))
    have hbF : b ∉ F := fun hm => by
      obtain ⟨cs, T, fz', hc⟩ := HD.out.cells b hm
      obtain ⟨DD, ⟨es, ck, h1, _⟩, _⟩ := H.out.mp
      rw [h1] at hc; cases hc
    have hbl := H.out.mp.lt
    have hF' : ∀ k ∈ F', k ≠ Dd := fun k hk e' => by
      obtain ⟨cs, T, fz', hc⟩ := hDw.cells k hk
      rw [e', hDd'] at hc; cases hc
    refine ⟨.tuple #[], by simp [results, Tryd.results21, go_sem], rfl, F', ?_, ?_, ?_⟩
    · exact hIL.heap ((g1 s (by omega) hsF (by omega)).trans (g2 s (by omega) (by omega))) ((g1 b (by omega) hbF (by omega)).trans (g2 b (by omega) (by omega)))
    · exact hDw.heap (fun k hk => World.putObj_heap_other (hF' k hk))
    · refine ⟨hUw.os.trans (hk5l.os.trans (HK5.out.os.trans (HU.out.os.trans hUL.os))), hUw.tape.trans (hk5l.tape.trans (HK5.out.tape.trans (HU.out.tape.trans hUL.tape))), hUw.output.trans (hk5l.output.trans (HK5.out.output.trans (HU.out.output.trans hUL.output))), ?_, ?_, ?_⟩
      · have := hUw.size
        show w.heap.size ≤ (w'.putObj Dd (.deferred none)).heap.size
        simp [World.putObj]; omega
      · intro k hk hkF
        simp only [List.mem_cons, not_or] at hkF
        exact (g1 k (by omega) hkF.2 (by omega)).trans ((g2 k (by omega) (by omega)).trans (hUL.block k hk (by simpa using hkF.1)))
      · intro k hk
        rcases List.mem_cons.1 hk with h1 | h1
        · exact .inl (by simp [h1])
        · rcases hUw.new k h1 with h2 | h2
          · exact .inl (by simp [h2])
          · exact .inr (by omega)
end Go.Proofs.YtbhokalnkfdekaaDoor
