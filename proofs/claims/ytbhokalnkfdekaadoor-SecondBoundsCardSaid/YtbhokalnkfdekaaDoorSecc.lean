/- Package second: what the bodies of its ranges leave as it was. -/
import Derived.Test.YtbhokalnkfdekaaDoorSecb
namespace Go.Proofs.YtbhokalnkfdekaaDoor
open Go.RowKit
open Go.Proofs Go.Shelf

theorem Upd.keepsFrom {F F' : List Nat} {w w' : World} {B : Nat} (h : Upd F w F' w') (hF : ∀ k ∈ F, k < B ∨ ∃ cs T fz, w.heap[k]? = some (Obj.cells cs T fz)) : KeepsFrom B w w' :=
  ⟨h.size, fun k o hB hk ho => by
    by_cases hm : k ∈ F
    · rcases hF k hm with h1 | ⟨cs, T, fz, h1⟩
      · omega
      · rw [h1] at hk; cases hk; cases ho
    · exact (h.block k (lt_blk hk) hm).trans hk⟩

theorem ownFrom_upd {β : Type} {B : Nat} {F : List Nat} {w0 : World} (hB : w0.heap.size ≤ B) : OwnFrom B (fun (_ : β) W => Upd F w0 F W) := fun _ W W' row hs hg hr =>
  ⟨hg.os.trans hs.os, hg.tape.trans hs.tape, hg.output.trans hs.output, Nat.le_trans hs.size hg.size, fun k hk hF => (hg.block k (Nat.lt_of_lt_of_le hk hs.size) (fun e => by have := (hr k e.symm).1; omega)).trans (hs.block k hk hF), fun k hk => .inl hk⟩

theorem Row.grown {W W' : World} {row : Option Nat} {base : Nat} {v : Value} {l : List En} (h : Row W base v l) (hg : W.grownBy W' row) (hrow : ∀ r, row = some r → ∃ o : Obj, W.heap[r]? = some o ∧ o.isCells = false) : Row W' base v l := by
  refine ⟨h.1, h.2.imp id ?_⟩
  rintro ⟨g, cap, cur, h1, h2, h3, h4⟩
  exact ⟨g, cap, cur, h1, h2, (hg.block g (lt_blk h3) (fun e => by obtain ⟨o, ho, hc⟩ := hrow g e.symm; rw [h3] at ho; cases ho; cases hc)).trans h3, h4⟩

theorem Devs.cells {w : World} {d : Nat} {D : Dv} {F : List Nat} (h : Devs w d D F) : ∀ k ∈ F, ∃ cs T fz, w.heap[k]? = some (Obj.cells cs T fz) := by
  obtain ⟨b0, b1, wv, hI, rfl⟩ := h
  intro k hk
  simp only [List.mem_cons, Option.mem_toList] at hk
  rcases hk with rfl | rfl | rfl | hk
  · exact ⟨_, _, _, hI.blk⟩
  · exact ⟨_, _, _, hI.sec0⟩
  · exact ⟨_, _, _, hI.sec1⟩
  · rcases hI.wait.2 with ⟨e, _⟩ | ⟨g, c, cur, e, _, hg, _⟩
    · rw [e] at hk; cases hk
    · rw [e] at hk; cases hk; exact ⟨_, _, _, hg⟩

/-- a group's entries -/
def groupE (S : Sc) (g : Nat) (l : List (Fin 7)) : List En := l.filterMap fun x => S.M (7 * g + x.val)
theorem groupE_snoc (S : Sc) (g : Nat) (l : List (Fin 7)) (x : Fin 7) : groupE S g (l ++ [x]) = groupE S g l ++ (S.M (7 * g + x.val)).toList := by
  simp only [groupE, List.filterMap_append, List.filterMap_cons, List.filterMap_nil]
  cases S.M (7 * g + x.val) <;> rfl
theorem groupE_ok {S : Sc} (hok : ∀ p x, S.M p = some x → p < roomN S.n ∧ OkEn x) (g : Nat) (l : List (Fin 7)) : ∀ x ∈ groupE S g l, OkEn x := by
  intro x hx
  obtain ⟨y, _, hy⟩ := List.mem_filterMap.1 hx
  exact (hok _ _ hy).2
theorem groupE_len (S : Sc) (g : Nat) (l : List (Fin 7)) : (groupE S g l).length ≤ l.length := List.length_filterMap_le _ _
end Go.Proofs.YtbhokalnkfdekaaDoor
