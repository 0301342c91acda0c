/- strings.Builder: copyCheck, Write, WriteString. -/
import Derived.Test.YtbhokalnkfdekaaDoorSumb
import Derived.Test.YtbhokalnkfdekaaDoorShelf
import Derived.Laws.AppendOwn
import Derived.Lib.Builder
import Derived.Lib.AppendStr
namespace Go.Proofs.YtbhokalnkfdekaaDoor
open Go.RowKit
open Go.Proofs

/-- what is written lies from B on: below it all is as it was -/
theorem Upd.below {F F' : List Nat} {w w' : World} {B : Nat} (h : Upd F w F' w') (hB : B ≤ w.heap.size) (hF : ∀ k ∈ F, B ≤ k) : Below B w w' :=
  ⟨h.os, h.tape, h.output, h.size, fun k hk => h.block k (by omega) (fun hm => by have := hF k hm; omega)⟩

/-- every row of another type than a builder's, or a byte's, is as it was -/
def Oth (w w' : World) : Prop := ∀ (k : Nat) (cs : Array Value) (T : TypeId) (fz : Nat × Nat), w.heap[k]? = some (Obj.cells cs T fz) → T ≠ 106 → T ≠ 5 → w'.heap[k]? = w.heap[k]?

theorem builderAt_kept {T e : TypeId} {B b : Nat} {p : Value} {bs : List Value} {w w' : World} (h : Lib.BuilderAt T e B b p bs w) (hk : Kept w w') : Lib.BuilderAt T e B b p bs w' := by
  obtain ⟨hB, v, hb, hown, hne⟩ := h
  exact ⟨hB, v, (hk.heap (lt_blk hb)).trans hb, ownsRow_heap hown (fun k hkk => hk.heap (hown.lt k hkk).2), hne⟩

theorem builder_kept {T e : TypeId} {B b : Nat} {bs : List Value} {w w' : World} (h : Lib.IsBuilder T e B b bs w) (hk : Kept w w') : Lib.IsBuilder T e B b bs w' :=
  h.elim (fun x => .inl (builderAt_kept x hk)) (fun x => .inr (builderAt_kept x hk))

theorem builder_new (w : World) (T e : TypeId) : Lib.IsBuilder T e w.heap.size w.heap.size [] (w.alloc (.cells #[.pointer none, .slice none 0 0] T)) :=
  .inl ⟨Nat.le_refl _, .slice none 0 0, heap_alloc_new' _ _, World.ownsRow_nil _ _ _ _, by simp [Value.ownBlock]⟩

theorem b_info : (Tryd.prog.info? 106).map (fun i => i.size) = some 2 := by kernel_rfl
theorem b_byte : (Tryd.prog.info? 5).map (fun i => (i.zero, i.size, i.bytes)) = some (some (.int .u8 0), 1, 1) := by kernel_rfl
theorem b_lies : liesAt Tryd.prog Tryd.prog.depth 106 (2 / Tryd.prog.cellsOf 106) 0 106 1 = true := by kernel_rfl

set_option maxRecDepth 100000 in
/-- copyCheck, at a builder in a known block -/
theorem copycheck_any (b : Nat) (v : Value) (p : Value) (w : World) (h : w.heap[b]? = some (.cells #[p, v] 106 (0, 0))) (hp : p = .pointer none ∨ p = .pointer (some ⟨b, 0, none⟩)) :
    Calls Tryd.prog 70 #[.pointer (some ⟨b, 0, none⟩)] w fun e w' => e = .returned (.tuple #[]) ∧ (w'.heap[b]? = some (.cells #[.pointer (some ⟨b, 0, none⟩), v] 106 (0, 0)) ∧ Upd [b] w [b] w' ∧ (w' = w ∨ w' = w.setCell ⟨b, 0, none⟩ (.pointer (some ⟨b, 0, none⟩)))) := by
  obtain ⟨j, hj, hjs⟩ := Option.map_eq_some_iff.1 b_info
  have c0 : w.cell? ⟨b, 0, none⟩ = some p := by rw [cell_blk h]; rfl
  have hsh : w.shape? b = some (106, 2) := by simp [World.shape?, h]
  have fz : w.frozen? ⟨b, 0, none⟩ = false := frozen_blk h
  rcases hp with rfl | rfl
  ·
    go_enter Tryd.func70, Tryd.ntmps70
    go_wp2
    rw [Lib.run_to_unsafe w ⟨b, 0, none⟩ Tryd.underlying103 Tryd.underlying147 hj (by rw [hjs]; decide) hsh (Nat.zero_lt_succ 1)]
    simp only [Result.andThen]
    rw [Oper.upon_value]
    go_wp2
    rw [run_callFunc_extern Tryd.func88 (by kernel_rfl) (by kernel_rfl) (by kernel_rfl) (e := Extern.AbiNoEscape.same) (by kernel_rfl)]
    rw [Lib.run_noEscape]
    simp only [Result.andThen]
    rw [Oper.upon_value]
    go_wp2
    rw [Lib.run_from_unsafe w ⟨b, 0, none⟩ Tryd.underlying147 Tryd.underlying103 hj hsh b_lies]
    simp only [Result.andThen]
    rw [Oper.upon_value]
    go_wp2
    go_end0
    exact ⟨rfl, by rw [heap_set_eq _ _ _ _ h]; rfl, (Upd.refl _ _).setCell (.inl (by simp)) _, .inr rfl⟩
  ·
    go_enter Tryd.func70, Tryd.ntmps70
    go_wp2
    rw [Lib.run_neq_ptr_same w _ Tryd.underlying103 hj]
    go_wp2
    go_end0
    exact ⟨rfl, h, Upd.refl _ _, .inl rfl⟩

set_option maxHeartbeats 2000000 in
set_option maxRecDepth 100000 in
theorem bwrite_any (B b g m c : Nat) (bs news : List Value) (w : World) (h : Lib.IsBuilder 106 5 B b bs w)
    (hg : w.heap[g]? = some (.cells news.toArray 5 (0, 0))) (hm : news.length = m) (h1 : ∀ u ∈ news, u.oneCell' = true) (hlen : bs.length + m ≤ 1000000) (hBw : B ≤ w.heap.size) :
    Calls Tryd.prog 60 #[.pointer (some ⟨b, 0, none⟩), .slice (some ⟨g, 0, none⟩) m c] w fun e w' => e = .returned (.tuple #[.int .i64 m, .nilIface]) ∧
      (Lib.BuilderAt 106 5 B b (.pointer (some ⟨b, 0, none⟩)) (bs ++ news) w' ∧ Below B w w') := by
  obtain ⟨i0, hi, hz0, hz1, hz2⟩ := info_parts b_byte
  obtain ⟨p, hp, hB, v, hbk, hown, hne⟩ : ∃ p, (p = .pointer none ∨ p = .pointer (some ⟨b, 0, none⟩)) ∧ Lib.BuilderAt 106 5 B b p bs w := by
    rcases h with h | h
    · exact ⟨_, .inl rfl, h⟩
    · exact ⟨_, .inr rfl, h⟩
  have hgb : g ≠ b := by
    rintro rfl
    rw [hg] at hbk
    simp only [Option.some.injEq, Obj.cells.injEq] at hbk
    exact absurd hbk.2.1 (by decide)
  have hlt : b < w.heap.size := lt_blk hbk
  have HC := Lib.hid (copycheck_any b v p w hbk hp)
  have HG := Lib.hid hg
  clear hg h
  go_enter Tryd.func60, Tryd.ntmps60
  go_wp2_with fail
  refine HC.out.mono ?_
  rintro e w1 ⟨rfl, hbk1, hU, hw⟩
  have hown1 : w1.ownsRow B 5 1 v bs.length bs := by
    rcases hw with rfl | rfl
    · exact hown
    · exact hown.kept (row := some b) ⟨rfl, rfl, rfl, by simp [World.setCell], fun k _ hk => Below.heap_setCell _ _ _ _ (fun e => hk (by simp [e]))⟩ (Or.inr hne)
  have hg1 : w1.heap[g]? = some (.cells news.toArray 5 (0, 0)) := by
    rcases hw with rfl | rfl
    · exact HG.out
    · rw [heap_set_ne _ _ _ _ _ hgb]; exact HG.out
  have hb1 : Below B w w1 := by
    rcases hw with rfl | rfl
    · exact Below.refl _ _
    · exact (Below.refl B w).setCell (p := ⟨b, 0, none⟩) hB _
  have c1 : w1.cell? ⟨b, 1, none⟩ = some v := by rw [cell_blk hbk1]; rfl
  have hnews1 : ∀ j u, news[j]? = some u → w1.cell? (Addr.add ⟨g, 0, none⟩ j) = some u := fun j u hj => by
    have : Addr.add ⟨g, 0, none⟩ j = ⟨g, j, none⟩ := by simp only [Addr.add]; split <;> simp_all
    rw [this, cell_blk hg1]; simpa using hj
  clear hw hU HC
  go_wp2_with (at_builtin; refine wpList_append_own _ rfl _ _ 104 rfl B 5 i0 (.int .u8 0) 1 1 Tryd.underlying104 hi hz0 hz1 hz2 rfl (by decide) _ _ _ rfl hown1 ⟨g, 0, none⟩ m c news rfl (by omega) hnews1 h1 ?c3 ?c4 ?c5 ?_)
  case c3 => unfold maxLen; omega
  case c4 => omega
  case c5 => have := hb1.size; omega
  intro v' w2 hown' hgrow _
  have hlt1 : b < w1.heap.size := lt_blk hbk1
  have hb2 : w2.heap[b]? = some (.cells #[.pointer (some ⟨b, 0, none⟩), v] 106 (0, 0)) := by
    rw [hgrow.block b hlt1 (fun e => hne e.symm)]
    exact hbk1
  have d1 : w2.cell? ⟨b, 1, none⟩ = some v := by rw [cell_blk hb2]; rfl
  have f1 : w2.frozen? ⟨b, 1, none⟩ = false := frozen_blk hb2
  obtain ⟨ao, n', cap, rfl⟩ : ∃ ao n' cap, v' = .slice ao n' cap := by
    rcases hown'.2 with ⟨hv, _⟩ | ⟨g, cap, cur, hv, _⟩
    · exact ⟨_, _, _, hv⟩
    · exact ⟨_, _, _, hv⟩
  go_wp2
  go_ret2
  refine ⟨rfl, ?_, ?_⟩
  · exact Lib.BuilderAt.put (T := 106) (e := 5) hB hb2 (bs' := bs ++ news) (by simpa [hm] using hown') (by decide)
  · exact (hb1.grown hgrow (by have := hb1.size; omega) (fun k hk => (hown1.lt k hk).1)).setCell (p := ⟨b, 1, none⟩) hB _
set_option maxHeartbeats 2000000 in
set_option maxRecDepth 100000 in
theorem bws_any (B b : Nat) (bs : List Value) (s : ByteArray) (w : World) (h : Lib.IsBuilder 106 5 B b bs w)
    (hlen : bs.length + s.size ≤ 1000000) (hBw : B ≤ w.heap.size) :
    Calls Tryd.prog 53 #[.pointer (some ⟨b, 0, none⟩), .string s] w fun e w' => e = .returned (.tuple #[.int .i64 s.size, .nilIface]) ∧
      (Lib.BuilderAt 106 5 B b (.pointer (some ⟨b, 0, none⟩)) (bs ++ Lib.strCells s) w' ∧ Below B w w' ∧ Oth w w') := by
  obtain ⟨i0, hi, hz0, hz1, hz2⟩ := info_parts b_byte
  obtain ⟨p, hp, hB, v, hbk, hown, hne⟩ : ∃ p, (p = .pointer none ∨ p = .pointer (some ⟨b, 0, none⟩)) ∧ Lib.BuilderAt 106 5 B b p bs w := by
    rcases h with h | h
    · exact ⟨_, .inl rfl, h⟩
    · exact ⟨_, .inr rfl, h⟩
  have hlt : b < w.heap.size := lt_blk hbk
  have HC := Lib.hid (copycheck_any b v p w hbk hp)
  clear h
  go_enter Tryd.func53, Tryd.ntmps53
  go_wp2_with fail
  refine HC.out.mono ?_
  rintro e w1 ⟨rfl, hbk1, hU, hw⟩
  have hown1 : w1.ownsRow B 5 1 v bs.length bs := by
    rcases hw with rfl | rfl
    · exact hown
    · exact hown.kept (row := some b) ⟨rfl, rfl, rfl, by simp [World.setCell], fun k _ hk => Below.heap_setCell _ _ _ _ (fun e => hk (by simp [e]))⟩ (Or.inr hne)
  have hb1 : Below B w w1 := by
    rcases hw with rfl | rfl
    · exact Below.refl _ _
    · exact (Below.refl B w).setCell (p := ⟨b, 0, none⟩) hB _
  have c1 : w1.cell? ⟨b, 1, none⟩ = some v := by rw [cell_blk hbk1]; rfl
  clear hw HC
  go_wp2_with (at_builtin; refine Lib.wpList_append_own_string _ rfl _ _ 104 9 rfl B 5 i0 Tryd.underlying104 Tryd.underlying9 hi hz0 hz1 hz2 _ _ _ rfl hown1 s rfl ?c3 ?c4 ?c5 ?_)
  case c3 => unfold maxLen; omega
  case c4 => omega
  case c5 => have := hb1.size; omega
  intro v' w2 hown' hgrow _
  have hlt1 : b < w1.heap.size := lt_blk hbk1
  have hb2 : w2.heap[b]? = some (.cells #[.pointer (some ⟨b, 0, none⟩), v] 106 (0, 0)) := by
    rw [hgrow.block b hlt1 (fun e => hne e.symm)]
    exact hbk1
  have d1 : w2.cell? ⟨b, 1, none⟩ = some v := by rw [cell_blk hb2]; rfl
  have f1 : w2.frozen? ⟨b, 1, none⟩ = false := frozen_blk hb2
  obtain ⟨ao, n', cap, rfl⟩ : ∃ ao n' cap, v' = .slice ao n' cap := by
    rcases hown'.2 with ⟨hv, _⟩ | ⟨g, cap, cur, hv, _⟩
    · exact ⟨_, _, _, hv⟩
    · exact ⟨_, _, _, hv⟩
  go_wp2
  go_ret2
  refine ⟨rfl, ?_, ?_, ?_⟩
  · exact Lib.BuilderAt.put (T := 106) (e := 5) hB hb2 (bs' := bs ++ Lib.strCells s) (by simpa [Lib.strCells] using hown') (by decide)
  · exact (hb1.grown hgrow (by have := hb1.size; omega) (fun k hk => (hown1.lt k hk).1)).setCell (p := ⟨b, 1, none⟩) hB _
  · intro k cs T fz hk hT1 hT2
    have hkb : k ≠ b := by rintro rfl; rw [hk] at hbk; simp only [Option.some.injEq, Obj.cells.injEq] at hbk; exact hT1 hbk.2.1
    have hk1 : w1.heap[k]? = w.heap[k]? := hU.block k (lt_blk hk) (by simpa using hkb)
    have hkv : v.ownBlock ≠ some k := fun e => Lib.ownBlock_ne hown1 (hk1.trans hk) hT2 e
    rw [heap_set_ne _ _ _ _ _ hkb, hgrow.block k (by have := hU.size; have := lt_blk hk; omega) (fun e => hkv e.symm)]
    exact hk1
end Go.Proofs.YtbhokalnkfdekaaDoor
