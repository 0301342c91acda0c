/- Maps with int keys, whose elements are values of one type. -/
import Derived.Test.YtbhokalnkfdekaaDoorClogc
import Derived.Maps.OwnSet
import Derived.Maps.RangeWalk
import Derived.Lib.SlKeysI
namespace Go.Proofs.YtbhokalnkfdekaaDoor
open Go.RowKit
open Go.Proofs Go.Maps

abbrev DV := DataW Value
def rdV : Value → Option (DV × List MemPlace) := fun v => some (.held v, [])
abbrev ik (k : Int) : Lit := .int .i64 k

def Wf (k : Int) : Prop := -9223372036854775808 ≤ k ∧ k ≤ 9223372036854775807
theorem wf_lit {k : Int} (h : Wf k) : (ik k).wf = true := by
  unfold Wf at h
  simp [Lit.wf, IntKind.min, IntKind.max, IntKind.signed, IntKind.bits]
  omega

/-- Block b is a map of at most n entries: M. -/
def Mp (w : World) (b n : Nat) (M : Int → Option Value) : Prop :=
  ∃ D : DV, w.ownsMap Tryd.prog 3 rdV b n D ∧ ∀ k, ∀ z, D.atKey (ik k) z = match M k with | some v => .held v | none => z

theorem Mp.has {M : Int → Option Value} {D : DV} (h : ∀ k, ∀ z, D.atKey (ik k) z = match M k with | some v => .held v | none => z) (k : Int) : Maps.has D (ik k) = (M k).isSome := by
  cases hm : M k with
  | none => exact has_false_of_atKey (fun z => by rw [h k z, hm])
  | some v => exact has_true_of_atKey (y := .held v) (fun z => by rw [h k z, hm])

theorem int_K : Keyed Tryd.prog 3 := int_keyed Tryd.underlying3

theorem Mp.lt {w : World} {b n : Nat} {M : Int → Option Value} (h : Mp w b n M) : b < w.heap.size := by
  obtain ⟨D, hD, _⟩ := h; exact hD.lt
theorem Mp.heap {w w' : World} {b n : Nat} {M : Int → Option Value} (h : Mp w b n M) (he : w'.heap[b]? = w.heap[b]?) : Mp w' b n M := by
  obtain ⟨D, ⟨es, clock, hb, F, hs, hD⟩, hM⟩ := h
  exact ⟨D, ⟨es, clock, he.trans hb, F, hs, hD⟩, hM⟩
theorem Mp.kept {w w' : World} {b n : Nat} {M : Int → Option Value} (h : Mp w b n M) (hk : Kept w w') : Mp w' b n M := h.heap (hk.heap h.lt)
theorem Mp.mono {w : World} {b n m : Nat} {M : Int → Option Value} (h : Mp w b n M) (hm : n ≤ m) : Mp w b m M := by
  obtain ⟨D, hD, hM⟩ := h; exact ⟨D, hD.mono hm, hM⟩
theorem Mp.made (w : World) : Mp (w.alloc (.map #[] 0)) w.heap.size 0 (fun _ => none) :=
  ⟨.map [], World.ownsMap_made w _ _ _, fun _ _ => rfl⟩

def upd (M : Int → Option Value) (k : Int) (o : Option Value) : Int → Option Value := fun j => if j = k then o else M j

section
variable {w : World} {b n : Nat} {M : Int → Option Value} {t e : TypeId}
theorem Mp.look (h : Mp w b n M) (ht : Tryd.prog.underlying t = some (.map 3 e)) {z : Value} (hz : (zeroValue e).run Tryd.prog w = .ok z w) {k : Int} (hk : Wf k) :
    (Instr.lookup t (.map (some b)) (.int .i64 k) false).run Tryd.prog w = .ok ((M k).getD z) w := by
  obtain ⟨D, hD, hM⟩ := h
  obtain ⟨v, ps, hrun, hv⟩ := hD.lookup int_K ht hz (zd := .held z) (zp := []) rfl (keyOf_int_mk Tryd.underlying3 (wf_lit hk))
  rw [hrun]
  have : DataW.held v = D.atKey (ik k) (.held z) := by simpa [rdV] using (congrArg (Option.map Prod.fst) hv)
  rw [hM k] at this
  cases hm : M k with
  | none => rw [hm] at this; simp only [DataW.held.injEq] at this; subst this; rfl
  | some x => rw [hm] at this; simp only [DataW.held.injEq] at this; subst this; rfl
theorem Mp.look_ok (h : Mp w b n M) (ht : Tryd.prog.underlying t = some (.map 3 e)) {z : Value} (hz : (zeroValue e).run Tryd.prog w = .ok z w) {k : Int} (hk : Wf k) :
    (Instr.lookup t (.map (some b)) (.int .i64 k) true).run Tryd.prog w = .ok (.tuple #[(M k).getD z, .bool (M k).isSome]) w := by
  obtain ⟨D, hD, hM⟩ := h
  obtain ⟨v, ps, hrun, hv⟩ := hD.look_ok int_K ht hz (zd := .held z) (zp := []) rfl (keyOf_int_mk Tryd.underlying3 (wf_lit hk))
  rw [hrun]
  have : DataW.held v = D.atKey (ik k) (.held z) := by simpa [rdV] using (congrArg (Option.map Prod.fst) hv)
  rw [hM k] at this
  rw [show Maps.has D (Lit.int .i64 k) = (M k).isSome from Mp.has hM k]
  cases hm : M k with
  | none => rw [hm] at this; simp only [DataW.held.injEq] at this; subst this; rfl
  | some x => rw [hm] at this; simp only [DataW.held.injEq] at this; subst this; rfl
theorem Mp.store (h : Mp w b n M) (ht : Tryd.prog.underlying t = some (.map 3 e)) (hn : n < 1000000000) {k : Int} (hk : Wf k) (v : Value) :
    ∃ w', (Instr.mapUpdate t (.map (some b)) (.int .i64 k) v).run Tryd.prog w = .ok () w' ∧ Mp w' b (n + 1) (upd M k (some v)) ∧ w.grownBy w' (some b) := by
  obtain ⟨D, hD, hM⟩ := h
  obtain ⟨w', hrun, h1, h2⟩ := hD.update (d := .held v) (ps := []) int_K ht (by unfold maxLen; omega) (keyOf_int_mk Tryd.underlying3 (wf_lit hk)) (val := v) rfl
  refine ⟨w', hrun, ⟨_, h1, fun j z => ?_⟩, h2⟩
  unfold upd
  by_cases hj : j = k
  · subst hj
    rw [if_pos rfl]
    exact atKey_put_same hD.isMap (k := ik j) (show WideAt.IsKeyLit (.int .i64 j) from trivial) _ _
  · rw [if_neg hj, atKey_put_other (by simpa [ik] using hj)]
    exact hM j z
theorem Mp.drop (h : Mp w b n M) (ht : Tryd.prog.underlying t = some (.map 3 e)) {k : Int} (hk : Wf k) (ty : TypeId) :
    ∃ w', (Builtin.delete_ #[t, 3] ty #[.map (some b), .int .i64 k]).run Tryd.prog w = .ok (.tuple #[]) w' ∧ Mp w' b n (upd M k none) ∧ w.mapTurned w' b := by
  obtain ⟨D, hD, hM⟩ := h
  obtain ⟨w', hrun, h1, h2⟩ := hD.drop int_K ht (keyOf_int_mk Tryd.underlying3 (wf_lit hk)) ty
  refine ⟨w', hrun, ⟨_, h1, fun j z => ?_⟩, h2⟩
  unfold upd
  by_cases hj : j = k
  · subst hj
    rw [if_pos rfl]
    exact atKey_del_same _
  · rw [if_neg hj, atKey_del_other (by simpa [ik] using hj)]
    exact hM j z
end
end Go.Proofs.YtbhokalnkfdekaaDoor
