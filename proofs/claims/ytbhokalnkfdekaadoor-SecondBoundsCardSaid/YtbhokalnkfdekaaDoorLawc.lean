/- A cache that is fed, again and again. -/
import Derived.Test.YtbhokalnkfdekaaDoorLawb
namespace Go.Proofs.YtbhokalnkfdekaaDoor
open Go.RowKit
open Go.Proofs Go.Maps

/-- a cache that is fed, and may crash -/
structure Run (R : List Int) (H : ByteArray → ByteArray → Prop) (f n k : Nat) (T : Sc × Dv) : Prop where
  inv : Inv R H T.1 T.2
  ws : T.2.ws.length ≤ 1
  seq : T.1.seq ≤ 2 * k
  fr : T.1.from' = f
  nn : T.1.n = n
  back : ∃ S0 : Sc, S0.from' = f ∧ S0.n = n ∧ S0.seq ≤ 2 * k ∧ Inv R H S0 { T.2 with ws := [] }

theorem Run.new (R : List Int) (H : ByteArray → ByteArray → Prop) (a b f n : Nat) (hn : 2 ≤ n) (hr : f + n ≤ b) (hb : b ≤ 512) : Run R H f n 0 (Sc.new f n, Dv.new a b) := by
  have h := Inv.new R H a b f n hn hr hb
  exact ⟨h, by simp [Dv.new], by simp [Sc.new], rfl, rfl, Sc.new f n, rfl, rfl, by simp [Sc.new], h⟩
theorem Run.feed {R : List Int} {H : ByteArray → ByteArray → Prop} {f n k : Nat} {T : Sc × Dv} {x : Fe} (h : Run R H f n k T) (hH : goodFeed x.1 x.2 → H x.1 x.2) : Run R H f n (k + 1) (feedT R x T) := by
  obtain ⟨S, D⟩ := T
  have hs := h.seq
  simp only at hs
  obtain ⟨S0, a1, a2, a3, a4⟩ := h.back
  unfold feedT
  split
  · rename_i hg
    split
    · exact ⟨h.inv, h.ws, by simp only; omega, h.fr, h.nn, S0, a1, a2, by omega, a4⟩
    · refine ⟨h.inv.feed (by have := h.ws; omega) _ _ hg (hH hg), feedN_ws _ _, ?_, ?_, ?_, ?_⟩
      · rw [feedN_eq]; simp only; omega
      · rw [feedN_eq]; exact h.fr
      · rw [feedN_eq]; exact h.nn
      · refine ⟨{ S with M := dropM S.M S.hand, seq := S.seq + 1 }, h.fr, h.nn, by simp only; omega, ?_⟩
        rw [feedN_eq]
        exact h.inv.half (by have := h.ws; omega) h.inv.hand x.2
  · exact ⟨h.inv, h.ws, by simp only; omega, h.fr, h.nn, S0, a1, a2, by omega, a4⟩

noncomputable def feeds (R : List Int) (l : List Fe) (T : Sc × Dv) : Sc × Dv := l.foldl (fun T x => feedT R x T) T
theorem feeds_snoc (R : List Int) (l : List Fe) (x : Fe) (T : Sc × Dv) : feeds R (l ++ [x]) T = feedT R x (feeds R l T) := by simp [feeds]

/-- what is fed -/
def inL (l : List Fe) (a t : ByteArray) : Prop := ∃ x ∈ l, x.1 = a ∧ x.2 = t
theorem inL_eq {l : List Fe} (hp : PlainP l) {i : Nat} {x : Fe} (hx : l[i]? = some x) {t : ByteArray} (h : inL l x.1 t) : t = x.2 := by
  obtain ⟨y, hy, h1, h2⟩ := h
  obtain ⟨j, hj⟩ := List.mem_iff_getElem?.1 hy
  rcases Nat.lt_trichotomy i j with h3 | h3 | h3
  · exact absurd h1.symm (hp.ne i j x y h3 hx hj)
  · subst h3; rw [hx] at hj; cases hj; exact h2.symm
  · exact absurd h1 (hp.ne j i y x h3 hj hx)
theorem finds_plain {l : List Fe} (hp : PlainP l) {i : Nat} {x : Fe} (hx : l[i]? = some x) {S : Sc} {t : ByteArray} {is : Bool} (h : Finds (inL l) S x.1 t is) : (is = false ∧ t = ⟨#[]⟩) ∨ (is = true ∧ t = x.2) := by
  cases h with
  | no h => exact .inl ⟨rfl, rfl⟩
  | yes t p y hy hk hH => exact .inr ⟨rfl, inL_eq hp hx hH⟩
theorem entriesOf_le (S : Sc) : (entriesOf S (placesOf S)).length ≤ roomN S.n := by
  have h1 : (entriesOf S (placesOf S)).length ≤ (placesOf S).length := List.length_filterMap_le _ _
  have h2 : (placesOf S).length ≤ (List.range (roomN S.n)).length := List.length_filter_le _ _
  rw [List.length_range] at h2
  omega
end Go.Proofs.YtbhokalnkfdekaaDoor
