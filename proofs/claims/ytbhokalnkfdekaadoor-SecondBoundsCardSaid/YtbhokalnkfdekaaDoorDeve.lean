/- Package dev: Read (a range over slices.Backward). -/
import Derived.Test.YtbhokalnkfdekaaDoorDevd
import Derived.Test.YtbhokalnkfdekaaDoorMem
import Derived.RangeFuncNested
import Derived.RangeFuncBound
import Derived.RangeFuncCalls
import Derived.RangeFuncLeaves
import Derived.Shelf.Abstract
import Derived.Shelf.RegionOpen
import Derived.OwnWalkIn
import Derived.TacticsInMore
import Derived.LoopNIn
import Derived.LoopIn
namespace Go.Proofs.YtbhokalnkfdekaaDoor
open Go.RowKit
open Go.Shelf
attribute [local go_sem] Oper.semAt_some

abbrev Wr := Int × Int × ByteArray
/-- the items of slices.Backward, from k - 1 down -/
def down (ws : List Wr) : Nat → List (Nat × Wr)
  | 0 => []
  | k + 1 => (k, ws.getD k (0, 0, ⟨#[]⟩)) :: down ws k
def encW (p : Nat × Wr) : Array Value := #[.int .i64 p.1, .agg #[.int .i64 p.2.1, .int .i64 p.2.2.1, .string p.2.2.2]]

theorem backward_any (p : Option Addr) (n c : Nat) (w : World) :
    Calls Tryd.prog 28 #[.slice p n c] w fun e w' =>
      e = .returned (.func (.func 42) #[] #[.pointer (some ⟨w.heap.size, 0, none⟩)]) ∧ w' = w.alloc (.cells #[.slice p n c] 50) := by
  go_enter Tryd.func28, Tryd.ntmps28
  go_wp2
  go_ret
  exact ⟨rfl, rfl⟩

/-- how waits lie in memory, whatever else does -/
def WaitsAt (w : World) (bw : Nat) (ws : List Wr) : Prop := ∀ k x, ws[k]? = some x → w.cell? ⟨bw, k * 3, none⟩ = some (.int .i64 x.1) ∧ w.cell? ⟨bw, k * 3 + 1, none⟩ = some (.int .i64 x.2.1) ∧ w.cell? ⟨bw, k * 3 + 2, none⟩ = some (.string x.2.2)
theorem WaitsAt.below {n₀ : Nat} {w w' : World} {bw : Nat} {ws : List Wr} (h : WaitsAt w bw ws) (hb : Below n₀ w w') (hlt : bw < n₀) : WaitsAt w' bw ws := fun k x hx =>
  ⟨(hb.cell (p := ⟨bw, k * 3, none⟩) hlt).trans (h k x hx).1, (hb.cell (p := ⟨bw, k * 3 + 1, none⟩) hlt).trans (h k x hx).2.1, (hb.cell (p := ⟨bw, k * 3 + 2, none⟩) hlt).trans (h k x hx).2.2⟩

set_option maxRecDepth 100000 in
set_option maxHeartbeats 1000000 in
theorem backward1_in (n l Bn n₀ bw c : Nat) (p : Option Addr) (hn : 1 ≤ n) (ws : List Wr) (hp : ws ≠ [] → p = some ⟨bw, 0, none⟩) (hl : ws.length ≤ 1000000000) (J Jx : List (Nat × Wr) → World → Prop)
    (hY : ∀ pre x W, J pre W → pre.length < ws.length → YieldAt Fence.wide (n - 1) Tryd.prog l (encW x) W fun e W' =>
      (e = .returned (.bool true) ∧ J (pre ++ [x]) W' ∧ Below n₀ W W') ∨ (e = .returned (.bool false) ∧ Jx (pre ++ [x]) W'))
    (W : World) (hBl : Bn < n₀) (hbl : bw < n₀) (hBn : W.cell? ⟨Bn, 0, none⟩ = some (.slice p ws.length c)) (hL : WaitsAt W bw ws) (h0 : J [] W) :
    CallsIn Fence.wide n Tryd.prog 42 #[.func (.yield l) #[] #[], .pointer (some ⟨Bn, 0, none⟩)] W fun e W' => (∃ v, e = .returned v) ∧
      ((∃ ys, ys = down ws ws.length ∧ J ys W') ∨ (∃ pre, pre <+: down ws ws.length ∧ Jx pre W')) := by
  refine callsIn_of_wp Tryd.func42 rfl trivial ?_ rfl
  simp only [Tryd.ntmps42, List.size_toArray, List.length_cons, List.length_nil, Nat.reduceAdd, Nat.reduceSub, Array.replicate_succ, Array.replicate_zero, List.push_toArray, List.append_toArray, List.nil_append, List.cons_append]
  have HY := Lib.hid hY
  have HP := Lib.hid hp
  clear hY hp
  gi_wp2
  gi_loopw [3] (fun i wr => ∃ (pre : List (Nat × Wr)) (k : Nat), i = .int .i64 ((k : Int) - 1) ∧ k ≤ ws.length ∧ pre.length + k = ws.length ∧ down ws ws.length = pre ++ down ws k ∧ wr.cell? ⟨Bn, 0, none⟩ = some (.slice p ws.length c) ∧ WaitsAt wr bw ws ∧ J pre wr)
    (fun i wr => (intOf i + 1).toNat)
  case atStart =>
    exact ⟨[], ws.length, rfl, Nat.le_refl _, by simp, rfl, hBn, hL, h0⟩
  case round =>
    obtain ⟨pre, k, rfl, hk, hlen, hd, hB, hWt, hJ⟩ := hrel
    cases k with
    | zero =>
      have HD := Lib.hid hd
      have HJ := Lib.hid hJ
      clear hd hJ hWt
      gi_wp2
      go_end0
      exact ⟨⟨_, rfl⟩, .inl ⟨pre, by have := HD.out; simpa [down] using this.symm, HJ.out⟩⟩
    | succ k =>
      rw [show (((k + 1 : Nat) : Int) - 1) = (k : Int) from by omega]
      obtain rfl := HP.out (by intro e; rw [e] at hk; simp at hk)
      obtain ⟨x, hx⟩ : ∃ x, ws[k]? = some x := ⟨_, List.getElem?_eq_getElem (by omega)⟩
      have hg : ws.getD k (0, 0, ⟨#[]⟩) = x := by simp [List.getD, hx]
      have hd' : down ws ws.length = (pre ++ [(k, x)]) ++ down ws k := by rw [hd]; simp only [down]; rw [hg]; simp
      obtain ⟨e0, e1, e2⟩ := hWt k x hx
      obtain ⟨fn, tmps, assign, body, hy, hR⟩ := HY.out pre (k, x) wr hJ (by omega)
      dsimp only [encW] at hy
      have HD := Lib.hid hd'
      have HJ := Lib.hid hJ
      have HW := Lib.hid hWt
      have HX := Lib.hid hx
      have HB := hB
      clear hd hd' hJ hWt hx hg
      gi_wp2
      refine hR.mono ?_
      rintro e W3 (⟨rfl, hJ3, hk3⟩ | ⟨rfl, hJx3⟩)
      · have hB3 : W3.cell? ⟨Bn, 0, none⟩ = some (.slice (some ⟨bw, 0, none⟩) ws.length c) := (hk3.cell (p := ⟨Bn, 0, none⟩) hBl).trans hB
        have hW3 := HW.out.below hk3 hbl
        have HW3 := Lib.hid hW3
        have HJ3 := Lib.hid hJ3
        have HK3 := Lib.hid hk3
        clear hW3 hJ3 hk3 hB e0 e1 e2
        gi_wp2
        go_roundw
        case rel => exact ⟨pre ++ [(k, x)], k, rfl, by omega, by simp; omega, HD.out, hB3, HW3.out, HJ3.out⟩
        case measure => simp [intOf]
      · have HJ3 := Lib.hid hJx3
        clear hJx3 e0 e1 e2 hB
        gi_wp2
        refine bodyPost_ret (results_none rfl _ _ _) rfl ?_
        exact ⟨⟨_, rfl⟩, .inr ⟨pre ++ [(k, x)], ⟨down ws k, HD.out.symm⟩, HJ3.out⟩⟩
theorem grown_cells {W W' : World} {row : Option Nat} {b : Nat} {c : Array Value} {t : TypeId} {f : Nat × Nat} (h : W.heap[b]? = some (.cells c t f)) (hg : W.grownBy W' row) (hrow : ∀ r, row = some r → ∃ o : Obj, W.heap[r]? = some o ∧ o.isCells = false) : W'.heap[b]? = some (.cells c t f) :=
  (hg.block b (lt_blk h) (fun e => by obtain ⟨o, ho, hc⟩ := hrow b e.symm; rw [h] at ho; cases ho; cases hc)).trans h

/-- does a write go there? -/
def hits (dev at' : Int) (x : Wr) : Bool := x.1 == dev && x.2.1 == at'
theorem down_find (ws : List Wr) (p : Wr → Bool) : ∀ k, k ≤ ws.length → (ws.take k).reverse.find? p = ((down ws k).find? (fun q => p q.2)).map (·.2) := by
  intro k
  induction k with
  | zero => intro _; simp [down]
  | succ k ih =>
    intro hk
    have h1 : k < ws.length := by omega
    have hg : ws.getD k (0, 0, ⟨#[]⟩) = ws[k] := by simp [List.getD, h1]
    rw [List.take_succ_eq_append_getElem h1, List.reverse_append]
    simp only [List.reverse_cons, List.reverse_nil, List.nil_append, List.cons_append, List.find?_cons, down, hg]
    cases p ws[k]
    · exact ih (by omega)
    · rfl
theorem get_down (D : Dv) (dev at' : Int) : D.get dev at' = match (down D.ws D.ws.length).find? (fun q => hits dev at' q.2) with
    | some q => q.2.2.2
    | none => D.sec dev at' := by
  have := down_find D.ws (hits dev at') D.ws.length (Nat.le_refl _)
  rw [List.take_length] at this
  unfold Dv.get
  have e : (fun x : Wr => x.1 == dev && x.2.1 == at') = hits dev at' := rfl
  rw [e, this]
  cases (down D.ws D.ws.length).find? (fun q => hits dev at' q.2) <;> rfl
theorem read_bad (d : Nat) (D : Dv) (F : List Nat) (dev at' : Int) (w : World) (hd : Devs w d D F) (hc : D.may dev at' 0 ≠ 0) :
    Calls Tryd.prog 14 #[.pointer (some ⟨d, 0, none⟩), .agg #[.int .i64 dev, .int .i64 at']] w fun e w' => e = .returned (.tuple #[.string ⟨#[]⟩, .int .i64 (D.may dev at' 0)]) ∧ Kept w w' := by
  have hcb : (D.may dev at' 0 == 0) = false := by simpa using hc
  have hcm : (D.may dev at' 0 != 0) = true := by simpa using hc
  have HD := Lib.hid hd
  clear hd hc
  go_enter Tryd.func14, Tryd.ntmps14
  go_wp2_with (go_at_call 27; refine (may_any d D F dev at' _ _ (HD.out.kept (by repeat (first | exact Below.refl _ _ | assumption | refine Below.drewN ?_ _ | refine Below.drew ?_ | (refine Below.alloc' _ ?_ ?_; (focus ((first | omega | (simp; done) | (simp; omega))))) | (refine Below.setCell' _ ?_ ?_; (focus ((first | omega | (simp; done) | (simp; omega))))))))).mono ?_; rintro e w1 ⟨rfl, hk⟩; (obtain ⟨hcc, hff⟩ := bcell hk); (have HK := Lib.hid (Kept.trans (by repeat (first | exact Below.refl _ _ | assumption | refine Below.drewN ?_ _ | refine Below.drew ?_ | (refine Below.alloc' _ ?_ ?_; (focus ((first | omega | (simp; done) | (simp; omega))))) | (refine Below.setCell' _ ?_ ?_; (focus ((first | omega | (simp; done) | (simp; omega))))))) hk : Kept w w1)); clear hk)
  have hb := HK.out
  refine bodyPost_ret (v := .tuple #[.string ⟨#[]⟩, .int .i64 (D.may dev at' 0)]) (by simp [results, Tryd.results14, go_sem, hcc, hff]) rfl ⟨rfl, (by repeat (first | exact Below.refl _ _ | assumption | refine Below.drewN ?_ _ | refine Below.drew ?_ | (refine Below.alloc' _ ?_ ?_; (focus ((first | omega | (simp; done) | (simp; omega))))) | (refine Below.setCell' _ ?_ ?_; (focus ((first | omega | (simp; done) | (simp; omega)))))))⟩

theorem Kept.putObj {w W : World} (h : Kept w W) {D : Nat} (hD : w.heap.size ≤ D) (o : Obj) : Kept w (W.putObj D o) :=
  h.grown (grownBy_putObj' W D o) h.size (fun k e => by cases e; exact hD)

theorem read_leave (W w : World) (Dd t4 t5 : Nat) (X : ByteArray) (c : Int) (hk : W.heap[Dd]? = some (.deferred (some []))) (e4 : W.heap[t4]? = some (.cells #[.string X] 9 (0, 0)))
    (e5 : W.heap[t5]? = some (.cells #[.int .i64 c] 32 (0, 0))) (tmps : Array Value) (h4 : tmps[4]?.getD undef = .pointer (some ⟨t4, 0, none⟩)) (h5 : tmps[5]?.getD undef = .pointer (some ⟨t5, 0, none⟩)) (hw : Kept w W) (hD : w.heap.size ≤ Dd) :
    bodyPostM Fence.wide 9 Tryd.prog Tryd.f14 (fun e w' => e = .returned (.tuple #[.string X, .int .i64 c]) ∧ Kept w w') .ret { tmps := tmps, defers := [{ target := .collected Dd, args := #[] }] } W := by
  have n4 : t4 ≠ Dd := by rintro rfl; rw [hk] at e4; cases e4
  have n5 : t5 ≠ Dd := by rintro rfl; rw [hk] at e5; cases e5
  have c4 : (W.putObj Dd (.deferred none)).cell? ⟨t4, 0, none⟩ = some (.string X) := by rw [cell_blk ((World.putObj_heap_other n4).trans e4)]; rfl
  have c5 : (W.putObj Dd (.deferred none)).cell? ⟨t5, 0, none⟩ = some (.int .i64 c) := by rw [cell_blk ((World.putObj_heap_other n5).trans e5)]; rfl
  refine ⟨by simp, .inl ⟨_, _, rfl, run_takeDeferred hk, ?_⟩⟩
  exact ⟨.tuple #[.string X, .int .i64 c], by simp [results, Tryd.results14, h4, h5, go_sem, c4, c5], rfl, hw.putObj hD _⟩

set_option maxRecDepth 100000 in
set_option maxHeartbeats 2000000 in
theorem read_ok (d : Nat) (D : Dv) (F : List Nat) (dev at' : Int) (w : World) (hd : Devs w d D F) (hv : D.valid dev at') (hl : D.lost dev = false) (hws : D.ws.length ≤ 1000000000) :
    Calls Tryd.prog 14 #[.pointer (some ⟨d, 0, none⟩), .agg #[.int .i64 dev, .int .i64 at']] w fun e w' => e = .returned (.tuple #[.string (D.get dev at'), .int .i64 0]) ∧ Kept w w' := by
  have hm : D.may dev at' 0 = 0 := by simp [Dv.may, hv, hl]
  obtain ⟨b0, b1, wv, hI, hF⟩ := hd
  have hD : Devs w d D F := ⟨b0, b1, wv, hI, hF⟩
  have c4 := hI.c4
  have hdl := lt_blk hI.blk
  obtain ⟨p, c, hwv⟩ : ∃ p c, wv = .slice p D.ws.length c := by
    rcases hI.wait.2 with ⟨e, h0⟩ | ⟨g, c, cur, e, _⟩
    · exact ⟨none, 0, by rw [e, h0]⟩
    · exact ⟨_, _, e⟩
  subst hwv
  have HD := Lib.hid hD
  have HI := Lib.hid hI
  have HV := Lib.hid hv
  have HM := Lib.hid hm
  clear hD hI hv hl hm
  refine (callsIn_wide (n := 9)).1 ?_
  refine callsIn_of_wp_marks Tryd.func14 rfl trivial ?_ rfl
  refine wpIn_wide.2 ?_
  simp only [Tryd.ntmps14, List.size_toArray, List.length_cons, List.length_nil, Nat.reduceAdd, Nat.reduceSub, Array.replicate_succ, Array.replicate_zero, List.push_toArray, List.append_toArray, List.nil_append, List.cons_append]
  go_wp2_with fail
  have hA := alloc3 w (.cells #[.int .i64 dev, .int .i64 at'] 42) (.cells #[.string ⟨#[]⟩] 9) (.cells #[.int .i64 0] 32)
  refine (may_any d D F dev at' _ _ (HD.out.kept hA.2.2.2.1)).mono ?_
  rintro e w1 ⟨rfl, hk⟩
  obtain ⟨a3, a4, a5, hA1, hA2⟩ := hA
  have HK := Lib.hid (hA1.trans hk : Kept w w1)
  have hz := hk.size
  rw [hA2] at hz
  have q3 := Lib.hid ((hk.heap (k := w.heap.size) (by omega)).trans a3)
  have q4 := Lib.hid ((hk.heap (k := w.heap.size + 1) (by omega)).trans a4)
  have q5 := Lib.hid ((hk.heap (k := w.heap.size + 1 + 1) (by omega)).trans a5)
  have d4 := (Below.cell HK.out (p := ⟨d, 4, none⟩) hdl).trans c4
  clear hk a3 a4 a5 hA1 hA2
  simp only [HM.out, show ({ data := #[] } : ByteArray).size = 0 from rfl]
  go_wp2_with fail
  refine (backward_any _ _ _ _).mono ?_
  rintro e w' ⟨rfl, rfl⟩
  go_wp2_with fail
  obtain ⟨B, hB⟩ : ∃ B, B = w1.heap.size + 1 := ⟨_, rfl⟩
  obtain ⟨wL, hwL⟩ : ∃ wL, w1.alloc (.cells #[.slice p D.ws.length c] 50) = wL := ⟨_, rfl⟩
  have hsz : wL.heap.size = B := by rw [← hwL, hB]; simp
  have hz' : w.heap.size + 3 ≤ w1.heap.size := hz
  have hk1 : Below w1.heap.size w1 wL := by rw [← hwL]; exact (Below.refl _ _).alloc (Nat.le_refl _) _
  have hkL : Kept w wL := HK.out.trans hk1
  have q3 : wL.heap[w.heap.size]? = some (.cells #[.int .i64 dev, .int .i64 at'] 42) := (hk1.block _ (by omega)).trans q3.out
  have q4 : wL.heap[w.heap.size + 1]? = some (.cells #[.string ⟨#[]⟩] 9) := (hk1.block _ (by omega)).trans q4.out
  have q5 : wL.heap[w.heap.size + 1 + 1]? = some (.cells #[.int .i64 0] 32) := (hk1.block _ (by omega)).trans q5.out
  have hBn : wL.cell? ⟨w1.heap.size, 0, none⟩ = some (.slice p D.ws.length c) := by rw [← hwL]; simp
  have hIL : IsDevs wL d b0 b1 (.slice p D.ws.length c) D := HI.out.kept hkL
  obtain ⟨bw, hp, hbw, hWa⟩ : ∃ bw, (D.ws ≠ [] → p = some ⟨bw, 0, none⟩) ∧ bw < B ∧ WaitsAt wL bw D.ws := by
    by_cases h0 : D.ws = []
    · exact ⟨0, fun h => absurd h0 h, by omega, fun k x hx => by rw [h0] at hx; simp at hx⟩
    · obtain ⟨g, c', e, _, hlt⟩ := hIL.wait.form (List.length_pos_iff.2 h0)
      cases e
      exact ⟨g, fun _ => rfl, by omega, fun k x hx => ⟨hIL.wcell0 hx, hIL.wcell1 hx, hIL.wcell2 hx⟩⟩
  have hseq : SeqStopsK Fence.wide 8 Tryd.prog 42 #[.pointer (some ⟨w1.heap.size, 0, none⟩)] encW (Below B) (fun ys => ys = down D.ws D.ws.length) (fun pre => pre <+: down D.ws D.ws.length) D.ws.length wL :=
    fun l J Jx W hW _ _ hY h0 => backward1_in 8 l w1.heap.size B bw c p (by omega) D.ws hp hws J Jx hY W (by omega) hbw ((hW.cell (p := ⟨w1.heap.size, 0, none⟩) (by rw [hsz]; show w1.heap.size < B; omega)).trans hBn) (hWa.below hW (by rw [hsz]; exact hbw)) h0
  rw [hwL]
  refine (wpIn_wide (n := 9)).1 ?_
  refine wpIn_rangeFunc_ownH rfl (by omega) (gf := 42) (lb := #[.pointer (some ⟨w1.heap.size, 0, none⟩)]) rfl trivial (enters_of Tryd.func42 (by kernel_rfl) rfl) hseq belowK_t (belowK_b (by omega)) (Below.refl _ _) (fun _ => rfl)
    (fun pre W => Below B wL W ∧ ∀ q ∈ pre, hits dev at' q.2 = false)
    (fun c pre W => c = .ret ∧ (∃ pre' x, pre = pre' ++ [x] ∧ (∀ q ∈ pre', hits dev at' q.2 = false) ∧ hits dev at' x.2 = true ∧ W.heap[w.heap.size + 1]? = some (.cells #[.string x.2.2.2] 9)) ∧ W.heap[w.heap.size + 1 + 1]? = some (.cells #[.int .i64 0] 32) ∧ Below w.heap.size w W)
    ((ownFrom_below (by omega) (by omega)).and (ownFrom_pure _ _))
    (fun c s X Y row hs hg hr => ⟨hs.1, by
        obtain ⟨pre', x, h1, h2, h3, h4⟩ := hs.2.1
        exact ⟨pre', x, h1, h2, h3, grown_cells h4 hg (fun r e => (hr r e).2)⟩, grown_cells hs.2.2.1 hg (fun r e => (hr r e).2), hs.2.2.2.grown hg (Nat.le_trans (by omega) hs.2.2.2.size) (fun k e => by have := (hr k e).1; omega)⟩)
    ⟨Below.refl _ _, by simp⟩
    (fun x a' W => ∃ g, W.heap[g]? = some (.cells #[.int .i64 x.2.1, .int .i64 x.2.2.1, .string x.2.2.2] 75) ∧ a' = { tmps := #[.pointer (some ⟨d, 0, none⟩), .agg #[.int .i64 dev, .int .i64 at'], undef, .pointer (some ⟨w.heap.size, 0, none⟩), .pointer (some ⟨w.heap.size + 1, 0, none⟩), .pointer (some ⟨w.heap.size + 1 + 1, 0, none⟩), .int .i64 0, undef, .pointer (some ⟨g, 0, none⟩),
      .pointer (some ⟨d, 0, none⟩), .agg #[.int .i64 dev, .int .i64 at'], .int .i64 0, .int .i64 0, .bool false, undef, .pointer (some ⟨d, 0, none⟩), .pointer (some ⟨d, 0, none⟩), .pointer (some ⟨d, 4, none⟩), .slice p D.ws.length c, .func (.func 42) #[] #[.pointer (some ⟨w1.heap.size, 0, none⟩)],
      .int .i64 x.1, .agg #[.int .i64 x.2.1, .int .i64 x.2.2.1, .string x.2.2.2], undef, undef, undef, undef, undef, undef, undef, undef, undef, undef, undef, undef, undef, undef, undef, undef, undef], defers := [] })
    (fun x a' s X Y row hs hg hr => by
        obtain ⟨g, h1, h2⟩ := hs
        exact ⟨g, grown_cells h1 hg (fun r e => (hr r e).2), h2⟩)
    ?assign ?body ?done ?stop
  case assign =>
    rintro l pre x W K ⟨hb, hno⟩ hK
    have HB := Lib.hid hb
    clear hb
    simp only [encW]
    gi_wp2
    refine hK _ _ ((KeepsOthers.alloc _ _).from _) ((Below.refl B W).alloc (by have := HB.out.size; omega) _) ⟨HB.out.alloc (by have := HB.out.size; omega) _, hno⟩ ⟨W.heap.size, heap_alloc_new' _ _, ?_⟩
    rfl
  case body =>
    rintro l pre x a' W hl ⟨r, hr⟩ ⟨hb, hno⟩ ⟨g, hg, rfl⟩ hlen
    have r3 : W.heap[w.heap.size]? = _ := (hb.block _ (by omega)).trans q3
    have r4 : W.heap[w.heap.size + 1]? = _ := (hb.block _ (by omega)).trans q4
    have r5 : W.heap[w.heap.size + 1 + 1]? = _ := (hb.block _ (by omega)).trans q5
    have x0 : W.cell? ⟨g, 0, none⟩ = some (.int .i64 x.2.1) := by rw [cell_blk hg]; rfl
    have x1 : W.cell? ⟨g, 1, none⟩ = some (.int .i64 x.2.2.1) := by rw [cell_blk hg]; rfl
    have x2 : W.cell? ⟨g, 2, none⟩ = some (.string x.2.2.2) := by rw [cell_blk hg]; rfl
    have y0 : W.cell? ⟨w.heap.size, 0, none⟩ = some (.int .i64 dev) := by rw [cell_blk r3]; rfl
    have y1 : W.cell? ⟨w.heap.size, 1, none⟩ = some (.int .i64 at') := by rw [cell_blk r3]; rfl
    have z0 : W.cell? ⟨w.heap.size + 1, 0, none⟩ = some (.string ⟨#[]⟩) := by rw [cell_blk r4]; rfl
    have z1 : W.cell? ⟨w.heap.size + 1 + 1, 0, none⟩ = some (.int .i64 0) := by rw [cell_blk r5]; rfl
    have f0 := frozen_blk (o := 0) r4
    have f1 := frozen_blk (o := 0) r5
    have HB := Lib.hid hb
    have HR := Lib.hid hr
    have HG := Lib.hid hg
    have R4 := Lib.hid r4
    have R5 := Lib.hid r5
    have Q3 := Lib.hid q3
    have Q4 := Lib.hid q4
    have Q5 := Lib.hid q5
    have HN := Lib.hid hno
    have HWL := Lib.hid hwL
    have HSZ := Lib.hid hsz
    have HBB := Lib.hid hB
    have HSQ := Lib.hid hseq
    clear hb hr hg r3 r4 r5 hno q3 q4 q5 hwL hsz hB hseq d4 c4 hBn hp hWa
    gi_wp2
    · rename_i h1 h2
      have hb := HB.out
      refine ⟨((KeepsOthers.setCell _ _ _).trans (KeepsOthers.setCell _ _ _)).from _, rfl, ⟨pre, x, rfl, HN.out, by simp [hits, h1, h2], ?_⟩, ?_, ?_⟩
      · rw [heap_set_ne _ (w.heap.size + 1 + 1) 0 _ (w.heap.size + 1) (by omega), heap_set_eq _ _ _ _ R4.out]; rfl
      · have h5 := heap_set_ne W (w.heap.size + 1) 0 (.string x.2.2.2) (w.heap.size + 1 + 1) (by omega)
        rw [heap_set_eq _ _ _ _ (h5.trans R5.out)]; rfl
      · have hs := HSZ.out
        have hkW : Kept w W := hkL.trans (hb.mono (by omega))
        exact Below.setCell' _ (by show w.heap.size ≤ w.heap.size + 1 + 1; omega) (Below.setCell' _ (by show w.heap.size ≤ w.heap.size + 1; omega) hkW)
    · rename_i h1 h2
      refine ⟨KeepsFrom.refl _ _, Below.refl _ _, HB.out, ?_⟩
      intro q hq
      rcases List.mem_append.1 hq with hq | hq
      · exact HN.out q hq
      · simp only [List.mem_singleton] at hq; subst hq; simp [hits, h1, h2]
    · rename_i h1
      refine ⟨KeepsFrom.refl _ _, Below.refl _ _, HB.out, ?_⟩
      intro q hq
      rcases List.mem_append.1 hq with hq | hq
      · exact HN.out q hq
      · simp only [List.mem_singleton] at hq; subst hq; simp [hits, h1]
  case done =>
    rintro Dd xs W hD hS ⟨hb, hno⟩ hK
    subst hS
    have hget : D.get dev at' = D.sec dev at' := by
      rw [get_down, List.find?_eq_none.2 (fun q hq => by simp [hno q hq])]
    have hkW : Kept w W := hkL.trans (hb.mono (by omega))
    have hIW := HI.out.kept hkW
    have r3 : W.heap[w.heap.size]? = _ := (hb.block _ (by omega)).trans q3
    have r4 : W.heap[w.heap.size + 1]? = _ := (hb.block _ (by omega)).trans q4
    have r5 : W.heap[w.heap.size + 1 + 1]? = _ := (hb.block _ (by omega)).trans q5
    have y0 : W.cell? ⟨w.heap.size, 0, none⟩ = some (.int .i64 dev) := by rw [cell_blk r3]; rfl
    have y1 : W.cell? ⟨w.heap.size, 1, none⟩ = some (.int .i64 at') := by rw [cell_blk r3]; rfl
    have z0 : W.cell? ⟨w.heap.size + 1, 0, none⟩ = some (.string ⟨#[]⟩) := by rw [cell_blk r4]; rfl
    have z1 : W.cell? ⟨w.heap.size + 1 + 1, 0, none⟩ = some (.int .i64 0) := by rw [cell_blk r5]; rfl
    have f0 := frozen_blk (o := 0) r4
    have f1 := frozen_blk (o := 0) r5
    obtain ⟨bs, n, hs1, hs2, hs3, hs4⟩ : ∃ bs n, W.cell? ⟨d, dev.toNat, none⟩ = some (.slice (some ⟨bs, 0, none⟩) n n) ∧ at' < n ∧ W.cell? ⟨bs, at'.toNat, none⟩ = some (.string (D.sec dev at')) ∧ bs < w.heap.size := by
      rcases HV.out with ⟨rfl, h1, h2⟩ | ⟨rfl, h1, h2⟩
      · exact ⟨b0, _, hIW.c0, h2, by rw [cell_blk hIW.sec0]; exact strs_get (by omega), lt_blk HI.out.sec0⟩
      · exact ⟨b1, _, hIW.c1, h2, by rw [cell_blk hIW.sec1]; exact strs_get (by omega), lt_blk HI.out.sec1⟩
    have hat : 0 ≤ at' := by rcases HV.out with ⟨_, h1, _⟩ | ⟨_, h1, _⟩ <;> exact h1
    have hdv : dev = 0 ∨ dev = 1 := by rcases HV.out with ⟨h1, _⟩ | ⟨h1, _⟩ <;> simp [h1]
    have hzW := hkW.size
    have hDd : w.heap.size + 3 ≤ Dd := by omega
    have HR4 := Lib.hid r4
    have HR5 := Lib.hid r5
    have HKW := Lib.hid hkW
    have HKD := Lib.hid hK
    have HG := Lib.hid hget
    clear hb hno hIW r3 r4 r5 hkW hK hget q3 q4 q5 hwL hsz hB hseq d4 c4 hBn hp hWa hk1 hkL hIL HI HD HV HM
    rcases hdv with rfl | rfl
    · change W.cell? ⟨d, 0, none⟩ = _ at hs1
      have n1 : d ≠ w.heap.size := by omega
      have n2 : bs ≠ w.heap.size := by omega
      have n3 : d ≠ w.heap.size + 1 := by omega
      have n4 : bs ≠ w.heap.size + 1 := by omega
      have n5 : d ≠ w.heap.size + 1 + 1 := by omega
      have n6 : bs ≠ w.heap.size + 1 + 1 := by omega
      have n7 : w.heap.size + 1 + 1 ≠ w.heap.size := by omega
      go_wp2_with fail
      go_region_held3 (fun w' => w'.cell? ⟨w.heap.size, 0, none⟩ = some (.int .i64 0) ∧ w'.cell? ⟨w.heap.size, 1, none⟩ = some (.int .i64 at') ∧ w'.cell? ⟨d, 0, none⟩ = some (.slice (some ⟨bs, 0, none⟩) n n) ∧ w'.cell? ⟨bs, at'.toNat, none⟩ = some (.string (D.sec 0 at'))) ((simp [*, World.cell?_setCell_far, Ne.symm])) (fail)
      go_wp2
      have e4 : ((W.setCell ⟨w.heap.size + 1, 0, none⟩ (.string (D.sec 0 at'))).setCell ⟨w.heap.size + 1 + 1, 0, none⟩ (.int .i64 0)).drew.heap[w.heap.size + 1]? = some (.cells #[.string (D.sec 0 at')] 9 (0, 0)) := by
        rw [heap_drew, heap_set_ne _ (w.heap.size + 1 + 1) 0 _ (w.heap.size + 1) (by omega), heap_set_eq _ _ _ _ HR4.out]; rfl
      have e5 : ((W.setCell ⟨w.heap.size + 1, 0, none⟩ (.string (D.sec 0 at'))).setCell ⟨w.heap.size + 1 + 1, 0, none⟩ (.int .i64 0)).drew.heap[w.heap.size + 1 + 1]? = some (.cells #[.int .i64 0] 32 (0, 0)) := by
        have h5 := heap_set_ne W (w.heap.size + 1) 0 (.string (D.sec 0 at')) (w.heap.size + 1 + 1) (by omega)
        rw [heap_drew, heap_set_eq _ _ _ _ (h5.trans HR5.out)]; rfl
      have eD : ((W.setCell ⟨w.heap.size + 1, 0, none⟩ (.string (D.sec 0 at'))).setCell ⟨w.heap.size + 1 + 1, 0, none⟩ (.int .i64 0)).drew.heap[Dd]? = some (.deferred (some [])) := by
        rw [heap_drew, heap_set_ne _ (w.heap.size + 1 + 1) 0 _ Dd (by omega), heap_set_ne _ (w.heap.size + 1) 0 _ Dd (by omega), HKD.out]
      have hkw := HKW.out
      rw [HG.out]
      exact read_leave _ w Dd _ _ _ _ eD e4 e5 _ rfl rfl (by repeat (first | exact Below.refl _ _ | assumption | refine Below.drewN ?_ _ | refine Below.drew ?_ | (refine Below.alloc' _ ?_ ?_; (focus ((first | omega | (simp; done) | (simp; omega))))) | (refine Below.setCell' _ ?_ ?_; (focus ((first | omega | (simp; done) | (simp; omega))))))) (by omega)
    · change W.cell? ⟨d, 1, none⟩ = _ at hs1
      have n1 : d ≠ w.heap.size := by omega
      have n2 : bs ≠ w.heap.size := by omega
      have n3 : d ≠ w.heap.size + 1 := by omega
      have n4 : bs ≠ w.heap.size + 1 := by omega
      have n5 : d ≠ w.heap.size + 1 + 1 := by omega
      have n6 : bs ≠ w.heap.size + 1 + 1 := by omega
      have n7 : w.heap.size + 1 + 1 ≠ w.heap.size := by omega
      go_wp2_with fail
      go_region_held3 (fun w' => w'.cell? ⟨w.heap.size, 0, none⟩ = some (.int .i64 1) ∧ w'.cell? ⟨w.heap.size, 1, none⟩ = some (.int .i64 at') ∧ w'.cell? ⟨d, 1, none⟩ = some (.slice (some ⟨bs, 0, none⟩) n n) ∧ w'.cell? ⟨bs, at'.toNat, none⟩ = some (.string (D.sec 1 at'))) ((simp [*, World.cell?_setCell_far, Ne.symm])) (fail)
      go_wp2
      have e4 : ((W.setCell ⟨w.heap.size + 1, 0, none⟩ (.string (D.sec 1 at'))).setCell ⟨w.heap.size + 1 + 1, 0, none⟩ (.int .i64 0)).drew.heap[w.heap.size + 1]? = some (.cells #[.string (D.sec 1 at')] 9 (0, 0)) := by
        rw [heap_drew, heap_set_ne _ (w.heap.size + 1 + 1) 0 _ (w.heap.size + 1) (by omega), heap_set_eq _ _ _ _ HR4.out]; rfl
      have e5 : ((W.setCell ⟨w.heap.size + 1, 0, none⟩ (.string (D.sec 1 at'))).setCell ⟨w.heap.size + 1 + 1, 0, none⟩ (.int .i64 0)).drew.heap[w.heap.size + 1 + 1]? = some (.cells #[.int .i64 0] 32 (0, 0)) := by
        have h5 := heap_set_ne W (w.heap.size + 1) 0 (.string (D.sec 1 at')) (w.heap.size + 1 + 1) (by omega)
        rw [heap_drew, heap_set_eq _ _ _ _ (h5.trans HR5.out)]; rfl
      have eD : ((W.setCell ⟨w.heap.size + 1, 0, none⟩ (.string (D.sec 1 at'))).setCell ⟨w.heap.size + 1 + 1, 0, none⟩ (.int .i64 0)).drew.heap[Dd]? = some (.deferred (some [])) := by
        rw [heap_drew, heap_set_ne _ (w.heap.size + 1 + 1) 0 _ Dd (by omega), heap_set_ne _ (w.heap.size + 1) 0 _ Dd (by omega), HKD.out]
      have hkw := HKW.out
      rw [HG.out]
      exact read_leave _ w Dd _ _ _ _ eD e4 e5 _ rfl rfl (by repeat (first | exact Below.refl _ _ | assumption | refine Below.drewN ?_ _ | refine Below.drew ?_ | (refine Below.alloc' _ ?_ ?_; (focus ((first | omega | (simp; done) | (simp; omega))))) | (refine Below.setCell' _ ?_ ?_; (focus ((first | omega | (simp; done) | (simp; omega))))))) (by omega)
  case stop =>
    rintro Dd cd pre W hD hSp ⟨rfl, ⟨pre', x, hpre, hno, hhit, h4⟩, h5, hb⟩ hK
    have hget : D.get dev at' = x.2.2.2 := by
      obtain ⟨t, ht⟩ := hSp
      rw [get_down, ← ht, hpre, List.find?_append, List.find?_append, List.find?_eq_none.2 (fun q hq => by simp [hno q hq])]
      simp [hhit]
    gi_wp2
    rw [hget]
    exact read_leave _ w Dd _ _ _ _ hK h4 h5 _ rfl rfl hb (by omega)
end Go.Proofs.YtbhokalnkfdekaaDoor
