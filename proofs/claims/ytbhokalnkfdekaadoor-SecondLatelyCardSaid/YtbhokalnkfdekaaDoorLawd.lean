/- What was fed lately is found. -/
import Derived.Test.YtbhokalnkfdekaaDoorLawc
namespace Go.Proofs.YtbhokalnkfdekaaDoor
open Go.RowKit
open Go.Proofs Go.Maps

/-- behind k feedings: which keys are where -/
structure Lat (l : List Fe) (n k : Nat) (T : Sc × Dv) : Prop where
  hand : T.1.hand = k % roomN n
  l1 : ∀ p x, T.1.M p = some x → ∃ (j : Nat) (y : Fe), j < k ∧ k ≤ j + roomN n ∧ j % roomN n = p ∧ l[j]? = some y ∧ x.key = y.1
  l2 : ∀ (j : Nat) (y : Fe), j < k → k ≤ j + roomN n → l[j]? = some y → ∃ x, T.1.M (j % roomN n) = some x ∧ x.key = y.1

theorem Lat.new (l : List Fe) (a b f n : Nat) : Lat l n 0 (Sc.new f n, Dv.new a b) :=
  ⟨by simp [Sc.new], (by intro p x hx; cases hx), fun j y hj => absurd hj (by omega)⟩

theorem key_one {l : List Fe} (hp : PlainP l) {i j : Nat} {x y : Fe} (hx : l[i]? = some x) (hy : l[j]? = some y) (h : x.1 = y.1) : i = j := by
  rcases Nat.lt_trichotomy i j with h3 | h3 | h3
  · exact absurd h (hp.ne i j x y h3 hx hy)
  · exact h3
  · exact absurd h.symm (hp.ne j i y x h3 hy hx)

theorem mod_near {j k r : Nat} (h1 : j < k) (h2 : k < j + r) : j % r ≠ k % r := by
  intro e
  have h3 := Nat.div_add_mod j r
  have h4 := Nat.div_add_mod k r
  have hr : 0 < r := by omega
  have h5 : r * (j / r) < r * (k / r) := by omega
  have h6 : j / r < k / r := Nat.lt_of_mul_lt_mul_left h5
  have h7 : r * (j / r + 1) ≤ r * (k / r) := Nat.mul_le_mul_left r h6
  rw [Nat.mul_add] at h7
  omega

theorem Lat.new_key {l : List Fe} {n k : Nat} {T : Sc × Dv} {x : Fe} (hp : PlainP l) (h : Lat l n k T) (hx : l[k]? = some x) : findP T.1 x.1 = none := by
  cases hf : findP T.1 x.1 with
  | none => rfl
  | some p =>
    obtain ⟨y, hy, hk⟩ := find_some hf
    obtain ⟨j, z, hj, _, _, hz, hkz⟩ := h.l1 p y hy
    have := key_one hp hz hx (hkz.symm.trans hk)
    omega

theorem Lat.step {R : List Int} {H : ByteArray → ByteArray → Prop} {l : List Fe} {f n k : Nat} {T : Sc × Dv} {x : Fe} (hp : PlainP l) (hn : 2 ≤ n) (h : Lat l n k T) (hr : Run R H f n k T) (hx : l[k]? = some x) : Lat l n (k + 1) (feedT R x T) := by
  have hg : goodFeed x.1 x.2 := hp.ok x (List.mem_of_getElem? hx)
  have hf := h.new_key hp hx
  have hroom : 0 < roomN n := by unfold roomN; omega
  obtain ⟨S, D⟩ := T
  have hnn : S.n = n := hr.nn
  have hh : S.hand = k % roomN n := h.hand
  unfold feedT
  rw [if_pos hg, hf]
  simp only [Option.isSome_none, Bool.false_eq_true, if_false]
  rw [feedN_eq]
  refine ⟨?_, fun p y hy => ?_, fun j y hj1 hj2 hy => ?_⟩
  · show (S.hand + 1) % roomN S.n = _
    rw [hnn, hh]
    simp
  · simp only [feM, setM, dropM] at hy
    split at hy
    · rename_i e
      cases hy
      exact ⟨k, x, by omega, by omega, by rw [e, hh], hx, rfl⟩
    · rename_i e
      obtain ⟨j, z, a1, a2, a3, a4, a5⟩ := h.l1 p y hy
      refine ⟨j, z, by omega, ?_, a3, a4, a5⟩
      have : k ≠ j + roomN n := fun e2 => e (by rw [← a3, hh, e2]; simp)
      omega
  · simp only [feM, setM, dropM]
    by_cases hjk : j = k
    · subst hjk
      rw [hx] at hy
      cases hy
      exact ⟨_, by rw [if_pos hh.symm], rfl⟩
    · have hne : j % roomN n ≠ S.hand := by rw [hh]; exact mod_near (by omega) (by omega)
      obtain ⟨z, b1, b2⟩ := h.l2 j y (by omega) (by omega) hy
      exact ⟨z, by rw [if_neg hne, if_neg hne]; exact b1, b2⟩

/-- what is found when all are fed -/
theorem lat_find {l : List Fe} {n i : Nat} {T : Sc × Dv} {x : Fe} {t : ByteArray} {is : Bool} (hp : PlainP l) (h : Lat l n l.length T) (hx : l[i]? = some x) (hf : Finds (inL l) T.1 x.1 t is) :
    (l.length ≤ i + roomN n ∧ is = true ∧ t = x.2) ∨ (¬ l.length ≤ i + roomN n ∧ is = false ∧ t = ⟨#[]⟩) := by
  have hi := (List.getElem?_eq_some_iff.1 hx).1
  cases hf with
  | no hno =>
    refine .inr ⟨fun hle => ?_, rfl, rfl⟩
    obtain ⟨y, b1, b2⟩ := h.l2 i x hi hle hx
    exact hno _ _ b1 b2
  | yes t p y hy hk hH =>
    refine .inl ⟨?_, rfl, inL_eq hp hx hH⟩
    obtain ⟨j, z, a1, a2, a3, a4, a5⟩ := h.l1 p y hy
    have := key_one hp a4 hx (a5.symm.trans hk)
    omega
end Go.Proofs.YtbhokalnkfdekaaDoor
