/- Package second: Open. -/
import Derived.Test.YtbhokalnkfdekaaDoorSecl
namespace Go.Proofs.YtbhokalnkfdekaaDoor
open Go.RowKit
open Go.Proofs Go.Shelf Go.Maps
attribute [local go_sem] Oper.semAt_some

theorem opennil_any (f n : Int) (w : World) :
    Calls Tryd.prog 8 #[.pointer none, .int .i64 f, .int .i64 n] w fun e w' => e = .returned (.pointer none) ∧ w' = w := by
  go_enter Tryd.func8, Tryd.ntmps8
  go_wp2
  go_ret
  exact ⟨rfl, rfl⟩

theorem openbad_any (d : Nat) (D : Dv) (F : List Nat) (f n : Nat) (w : World) (hd : Devs w d D F) (hn : n ≤ 1000000) (hf : f ≤ 1000000) (h : n < 2 ∨ D.s1.length < f + n) :
    Calls Tryd.prog 8 #[.pointer (some ⟨d, 0, none⟩), .int .i64 f, .int .i64 n] w fun e w' => e = .returned (.pointer none) ∧ w' = w := by
  have hs : D.s1.length ≤ 512 := hd.ok.le1
  have hlen : D.len 1 = D.s1.length := by simp [Dv.len]
  obtain ⟨z, hz⟩ : ∃ z, D.s1.length = z := ⟨_, rfl⟩
  rw [hz] at hs hlen h
  have HD := Lib.hid hd
  have HL := Lib.hid hlen
  clear hd hlen hz
  by_cases h2 : (n : Int) < 2
  · clear h
    go_enter Tryd.func8, Tryd.ntmps8
    go_wp2
    go_ret
    exact ⟨rfl, rfl⟩
  · have h3 : (z : Int) - n < f := by omega
    clear h
    go_enter Tryd.func8, Tryd.ntmps8
    go_wp2_with (go_at_call 13; refine (size_any d D F 1 _ HD.out).mono ?_; rintro e w' ⟨rfl, rfl⟩; rw [HL.out])
    go_ret
    exact ⟨rfl, rfl⟩

def atOf (f p : Nat) : Nat := f + 8 * (p / 7) + 1 + p % 7
/-- entries lie where their places are -/
def Ats (S : Sc) : Prop := ∀ p x, S.M p = some x → p < roomN S.n ∧ OkEn x ∧ x.at' = atOf S.from' p
/-- what a group's log says -/
def LogOk (R : List Int) (D : Dv) (S : Sc) (Q g : Nat) : Prop :=
  ((D.get 1 ((S.from' : Int) + 8 * g)).size < 41 ∧ groupE S g (secs S.n g) = []) ∨ (∃ q, q ≤ Q ∧ D.get 1 ((S.from' : Int) + 8 * g) = encB R q (groupE S g (secs S.n g)))

theorem secs_mem {n g : Nat} {i : Fin 7} : i ∈ secs n g ↔ 7 * g + i.val < roomN n := by
  unfold secs
  rw [List.mem_take_iff_getElem]
  constructor
  · rintro ⟨k, hk, e⟩
    simp at e hk
    subst e
    simp
    omega
  · intro h
    exact ⟨i.val, by simp; have := i.isLt; omega, by simp⟩
theorem groupE_own {S : Sc} (h : Ats S) (g : Nat) : ∀ x ∈ groupE S g (secs S.n g), OwnE S.from' S.n g x := by
  intro x hx
  obtain ⟨i, hi, hm⟩ := List.mem_filterMap.1 hx
  refine ⟨i, hi, ?_⟩
  rw [(h _ _ hm).2.2]
  have := i.isLt
  unfold atOf
  omega
theorem loadM_gen {S : Sc} (h : Ats S) (g : Nat) : ∀ (l : List (Fin 7)) (M : Nat → Option En) (p : Nat), loadM S.from' g M (groupE S g l) p = if p / 7 = g ∧ (∃ i ∈ l, i.val = p % 7) ∧ (S.M p).isSome then S.M p else M p
  | [], M, p => by simp [groupE, loadM]
  | i :: l, M, p => by
    have hil := i.isLt
    have hcons : groupE S g (i :: l) = (S.M (7 * g + i.val)).toList ++ groupE S g l := by
      simp only [groupE, List.filterMap_cons]
      cases S.M (7 * g + i.val) <;> rfl
    cases hm : S.M (7 * g + i.val) with
    | none =>
      rw [hm] at hcons
      rw [hcons]
      simp only [Option.toList_none, List.nil_append]
      rw [loadM_gen h g l M p]
      by_cases hc : p / 7 = g ∧ (S.M p).isSome
      · obtain ⟨h1, h2⟩ := hc
        have : ¬ i.val = p % 7 := fun e => by
          have : 7 * g + i.val = p := by omega
          rw [this] at hm; rw [hm] at h2; cases h2
        simp [h1, h2, this]
      · rw [if_neg (fun hh => hc ⟨hh.1, hh.2.2⟩), if_neg (fun hh => hc ⟨hh.1, hh.2.2⟩)]
    | some x =>
      rw [hm] at hcons
      rw [hcons]
      simp only [Option.toList_some, List.singleton_append]
      have hpl : placeOf S.from' g x = 7 * g + i.val := by
        rw [placeOf, (h _ _ hm).2.2]
        unfold atOf; omega
      rw [show loadM S.from' g M (x :: groupE S g l) = loadM S.from' g (setM M (7 * g + i.val) x) (groupE S g l) by rw [← hpl]; rfl, loadM_gen h g l _ p]
      by_cases hp : p = 7 * g + i.val
      · subst hp
        have e1 : (7 * g + i.val) / 7 = g := by omega
        have e2 : (7 * g + i.val) % 7 = i.val := by omega
        simp [e1, e2, hm, setM]
      · have hne : p / 7 = g → ¬ i.val = p % 7 := fun e1 e2 => hp (by omega)
        by_cases h1 : p / 7 = g
        · simp [h1, hne h1, setM, hp]
        · simp [h1, setM, hp]

/-- the entries of the first k groups -/
def firstM (S : Sc) (k : Nat) : Nat → Option En := fun p => if p / 7 < k then S.M p else none
theorem firstM_zero (S : Sc) : firstM S 0 = fun _ => none := by funext p; simp [firstM]
theorem firstM_succ {S : Sc} (h : Ats S) (k : Nat) : loadM S.from' k (firstM S k) (groupE S k (secs S.n k)) = firstM S (k + 1) := by
  funext p
  rw [loadM_gen h]
  unfold firstM
  by_cases h1 : p / 7 = k
  · cases hm : S.M p with
    | none => simp [h1]
    | some x =>
      have h2 : ∃ i ∈ secs S.n k, i.val = p % 7 := ⟨⟨p % 7, by omega⟩, secs_mem.2 (by have := (h _ _ hm).1; simp; omega), rfl⟩
      rw [if_pos ⟨h1, h2, rfl⟩, if_pos (by omega)]
  · rw [if_neg (fun hh => h1 hh.1)]
    by_cases h2 : p / 7 < k
    · rw [if_pos h2, if_pos (by omega)]
    · rw [if_neg h2, if_neg (by omega)]
theorem firstM_none {S : Sc} (h : Ats S) (k : Nat) (hg : groupE S k (secs S.n k) = []) : firstM S (k + 1) = firstM S k := by
  rw [← firstM_succ h k, hg]; rfl
theorem firstM_all {S : Sc} (h : Ats S) (k : Nat) (hk : roomN S.n ≤ 7 * k) : firstM S k = S.M := by
  funext p
  unfold firstM
  split
  · rfl
  · cases hm : S.M p with
    | none => rfl
    | some x => have := (h _ _ hm).1; omega
theorem mapV_none : mapV (fun _ => none) = fun _ => none := by funext k; simp [mapV]
theorem box2 (w : World) (v0 v1 : Value) (T : TypeId) (W : World) (hW : w.alloc (.cells #[v0, v1] T) = W) : W.cell? ⟨w.heap.size, 0, none⟩ = some v0 ∧ Kept w W ∧ W.heap.size = w.heap.size + 1 := by
  subst hW
  exact ⟨by rw [cell_blk (heap_alloc_new' w _)]; rfl, (by repeat (first | exact Below.refl _ _ | assumption | refine Below.drewN ?_ _ | refine Below.drew ?_ | (refine Below.alloc' _ ?_ ?_; (focus ((first | omega | (simp; done) | (simp; omega))))) | (refine Below.setCell' _ ?_ ?_; (focus ((first | omega | (simp; done) | (simp; omega))))))), by simp⟩
theorem IsSc.set {w w' : World} {s d b m : Nat} {S : Sc} (h : IsSc w s d b m S) (q h2 : Nat) (hs : w'.heap[s]? = some (.cells #[.pointer (some ⟨d, 0, none⟩), .int .i64 S.from', .int .i64 S.n, .map (some b), .int .i64 q, .int .i64 h2] 55 (0, 0))) (hb : w'.heap[b]? = w.heap[b]?) : IsSc w' s d b m { S with seq := q, hand := h2 } :=
  ⟨hs, h.mp.heap hb, h.okn, h.okf, h.okm⟩
theorem keep_set {w : World} {k o p o' : Nat} {v u : Value} (h : w.drew.cell? ⟨k, o, none⟩ = some v) (hne : k ≠ p) : (w.setCell ⟨p, o', none⟩ u).drew.cell? ⟨k, o, none⟩ = some v := by
  show (w.setCell ⟨p, o', none⟩ u).cell? ⟨k, o, none⟩ = some v
  rw [World.cell?_setCell_far _ _ _ _ (by simpa using Ne.symm hne)]
  exact h
/-- both are nought, if P -/
def ZeroIf (P : Prop) (a b : Nat) : Prop := P → a = 0 ∧ b = 0
/-- all logs are short -/
def Blank (D : Dv) (f n : Nat) : Prop := ∀ g : Nat, 7 * g < roomN n → (D.get 1 ((f : Int) + 8 * g)).size < 41
theorem encB_long (R : List Int) (q : Nat) (l : List En) : ¬ (encB R q l).size < 41 := by
  rw [encB_size]
  have h1 : (textL q l).length = 9 + (bodyL l).length := by
    rw [textL, List.length_append]
    have : (hdT q l.length).data.toList.length = 9 := by rw [Array.length_toList]; exact hdT_size _ _
    omega
  omega
end Go.Proofs.YtbhokalnkfdekaaDoor
