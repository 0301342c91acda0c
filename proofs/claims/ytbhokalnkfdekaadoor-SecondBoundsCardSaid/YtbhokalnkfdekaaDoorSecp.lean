/- Second caches, plainly: what a feeding leaves on the device; what a crash leaves. -/
import Derived.Test.YtbhokalnkfdekaaDoorSeco
namespace Go.Proofs.YtbhokalnkfdekaaDoor
open Go.RowKit
open Go.Proofs Go.Maps

/-! ### what is read behind writes -/
def hit (dev at' : Int) (x : Wr) : Bool := x.1 == dev && x.2.1 == at'
theorem get_def (D : Dv) (dev at' : Int) : D.get dev at' = match D.ws.reverse.find? (hit dev at') with | some x => x.2.2 | none => D.sec dev at' := rfl
theorem get_nows {D : Dv} (h : D.ws = []) (dev at' : Int) : D.get dev at' = D.sec dev at' := by rw [get_def, h]; rfl
theorem get_write (D : Dv) (dev at' : Int) (t : ByteArray) (dev' a : Int) : (D.write dev at' t).get dev' a = if dev' = dev ∧ a = at' then t else D.get dev' a := by
  rw [get_def, get_def]
  simp only [Dv.write, List.reverse_append, List.reverse_cons, List.reverse_nil, List.nil_append, List.singleton_append, List.find?_cons]
  by_cases h : dev' = dev ∧ a = at'
  · obtain ⟨rfl, rfl⟩ := h
    simp [hit]
  · have : hit dev' a (dev, at', t) = false := by
      simp only [hit, Bool.and_eq_false_iff, beq_eq_false_iff_ne]
      by_cases h1 : dev = dev'
      · exact .inr (fun h2 => h ⟨h1.symm, h2.symm⟩)
      · exact .inl h1
    rw [this, if_neg h]
    rfl
theorem sec_put (D : Dv) (x : Wr) (hx : D.valid x.1 x.2.1) (dev a : Int) (hd : dev = 0 ∨ dev = 1) (ha : 0 ≤ a) : (D.put x).sec dev a = if hit dev a x then x.2.2 else D.sec dev a := by
  obtain ⟨xd, xa, xt⟩ := x
  simp only [hit]
  unfold Dv.put Dv.sec
  rcases hx with ⟨h1, h2, h3⟩ | ⟨h1, h2, h3⟩
  all_goals
    simp only at h1 h2 h3
    subst h1
    rcases hd with rfl | rfl
    all_goals simp only [Int.reduceEq, if_true, if_false, Int.reduceBEq, Bool.false_and, Bool.true_and, Bool.false_eq_true, beq_self_eq_true, List.getD_eq_getElem?_getD, List.getElem?_set]
  all_goals
    by_cases he : xa = a
    · subst he
      simp
      try (rw [if_pos (by omega)]; rfl)
    · have h5 : ¬ xa.toNat = a.toNat := by omega
      simp [he, h5]
theorem valid_put (D : Dv) (x : Wr) (dev a : Int) : (D.put x).valid dev a ↔ D.valid dev a := by
  obtain ⟨k1, k2, _⟩ := D.put_shape x
  unfold Dv.valid; rw [k1, k2]
theorem sec_puts (dev a : Int) (hd : dev = 0 ∨ dev = 1) (ha : 0 ≤ a) : ∀ (l : List Wr) (D : Dv), (∀ x ∈ l, D.valid x.1 x.2.1) → (D.puts l).sec dev a = match l.reverse.find? (hit dev a) with | some x => x.2.2 | none => D.sec dev a
  | [], D, _ => rfl
  | x :: l, D, h => by
    rw [show D.puts (x :: l) = (D.put x).puts l from rfl, sec_puts dev a hd ha l _ (fun y hy => (valid_put _ _ _ _).2 (h y (by simp [hy])))]
    rw [List.reverse_cons, List.find?_append]
    cases hf : l.reverse.find? (hit dev a) with
    | some y => rfl
    | none =>
      simp only [Option.none_or, List.find?_cons, List.find?_nil]
      rw [sec_put D x (h x (by simp)) dev a hd ha]
      cases hit dev a x <;> rfl
theorem get_flush {D : Dv} (hv : ∀ x ∈ D.ws, D.valid x.1 x.2.1) (dev a : Int) (hd : dev = 0 ∨ dev = 1) (ha : 0 ≤ a) : D.flush.get dev a = D.get dev a := by
  rw [get_nows (show D.flush.ws = [] from rfl), get_def]
  exact sec_puts dev a hd ha D.ws D hv

/-! ### a cache that is well -/
/-- what is to be read at a place of a device -/
structure Inv (R : List Int) (H : ByteArray → ByteArray → Prop) (S : Sc) (D : Dv) : Prop where
  fit : Fit S D
  vs : ∀ x ∈ D.ws, D.valid x.1 x.2.1
  hand : S.hand < roomN S.n
  ats : Ats S
  logs : ∀ g, 7 * g < roomN S.n → LogOk R D S S.seq g
  data : ∀ p x, S.M p = some x → (D.get 1 x.at').size = x.len ∧ sumOf R (D.get 1 x.at') = x.sum ∧ H x.key (D.get 1 x.at')

theorem valid_write {D : Dv} {d' a' : Int} {t : ByteArray} {dev a : Int} : (D.write d' a' t).valid dev a ↔ D.valid dev a := Iff.rfl
theorem valid_flush {D : Dv} {dev a : Int} : D.flush.valid dev a ↔ D.valid dev a := by
  obtain ⟨k1, k2, _⟩ := Dv.puts_shape D.ws D
  unfold Dv.valid
  show (dev = 0 ∧ 0 ≤ a ∧ a < (D.puts D.ws).s0.length) ∨ _ ↔ _
  rw [k1]
  show _ ∨ (dev = 1 ∧ 0 ≤ a ∧ a < (D.puts D.ws).s1.length) ↔ _
  rw [k2]
theorem vs_write {D : Dv} (h : ∀ x ∈ D.ws, D.valid x.1 x.2.1) {dev a : Int} (hv : D.valid dev a) (t : ByteArray) : ∀ x ∈ (D.write dev a t).ws, (D.write dev a t).valid x.1 x.2.1 := by
  intro x hx
  rcases List.mem_append.1 hx with hx | hx
  · exact h x hx
  · simp only [List.mem_singleton] at hx; subst hx; exact hv
theorem vs_flush (D : Dv) : ∀ x ∈ D.flush.ws, D.flush.valid x.1 x.2.1 := by intro x hx; cases hx

theorem Inv.flush {R : List Int} {H : ByteArray → ByteArray → Prop} {S : Sc} {D : Dv} (h : Inv R H S D) : Inv R H S D.flush := by
  refine ⟨h.fit.flush, vs_flush D, h.hand, h.ats, fun g hg => ?_, fun p x hx => ?_⟩
  · have := h.logs g hg
    unfold LogOk at *
    rwa [get_flush h.vs 1 _ (.inr rfl) (by omega)]
  · rw [get_flush h.vs 1 _ (.inr rfl) (by omega)]
    exact h.data p x hx

/-! ### a feeding -/
theorem atOf_log {f p g : Nat} : ((atOf f p : Nat) : Int) ≠ (f : Int) + 8 * g := by unfold atOf; omega
theorem atOf_inj {f p q : Nat} (h : atOf f p = atOf f q) : p = q := by unfold atOf at h; omega
theorem log_inj {f g g' : Nat} (h : (f : Int) + 8 * g = (f : Int) + 8 * g') : g = g' := by omega

/-- the devices behind each step of a feeding -/
def fd1 (R : List Int) (S : Sc) (D : Dv) (g p : Nat) : Dv := D.write 1 ((S.from' : Int) + 8 * g) (encB R (S.seq + 1) (groupE { S with M := dropM S.M p } g (secs S.n g)))
def fd4 (R : List Int) (S : Sc) (D : Dv) (g p a : Nat) (load : ByteArray) : Dv := (((fd1 R S D g p).flush).write 1 (a : Int) load).flush
def feM (R : List Int) (S : Sc) (p : Nat) (key load : ByteArray) : Nat → Option En := setM (dropM S.M p) p ⟨key, sumOf R load, load.size, atOf S.from' p⟩
def fd5 (R : List Int) (S : Sc) (D : Dv) (g p : Nat) (key load : ByteArray) : Dv :=
  (fd4 R S D g p (atOf S.from' p) load).write 1 ((S.from' : Int) + 8 * g) (encB R (S.seq + 1 + 1) (groupE { S with M := feM R S p key load } g (secs S.n g)))

theorem feedN_eq (R : List Int) (key load : ByteArray) (S : Sc) (D : Dv) :
    feedN R key load (S, D) = ({ S with M := feM R S S.hand key load, seq := S.seq + 1 + 1, hand := (S.hand + 1) % roomN S.n }, fd5 R S D (S.hand / 7) S.hand key load) := by
  have h1 : 7 * (S.hand / 7) + S.hand % 7 = S.hand := by omega
  have h2 : S.from' + 8 * (S.hand / 7) + 1 + S.hand % 7 = atOf S.from' S.hand := rfl
  unfold feedN feed1 fd5 fd4 fd1 feM
  simp only [h1, h2]
  rfl

theorem groupE_congr {S S' : Sc} {g : Nat} (l : List (Fin 7)) (h : ∀ i : Fin 7, i ∈ l → S.M (7 * g + i.val) = S'.M (7 * g + i.val)) : groupE S g l = groupE S' g l := by
  unfold groupE
  induction l with
  | nil => rfl
  | cons i l ih =>
    simp only [List.filterMap_cons, h i (by simp)]
    rw [ih (fun j hj => h j (by simp [hj]))]

section
variable {R : List Int} {H : ByteArray → ByteArray → Prop} {S : Sc} {D : Dv}
theorem Inv.vlog (h : Inv R H S D) {g : Nat} (hg : 7 * g < roomN S.n) : D.valid 1 ((S.from' : Int) + 8 * g) := h.fit.valid (by omega) (by have := log_in hg; omega)
theorem Inv.vat (h : Inv R H S D) {p : Nat} (hp : p < roomN S.n) : D.valid 1 ((atOf S.from' p : Nat) : Int) := h.fit.valid (by omega) (by
  have := place_in (n := S.n) (g := p / 7) (i := p % 7) (by omega) (by omega)
  unfold atOf; omega)
theorem Inv.vs1 (h : Inv R H S D) {g : Nat} (hg : 7 * g < roomN S.n) (p : Nat) : ∀ x ∈ (fd1 R S D g p).ws, (fd1 R S D g p).valid x.1 x.2.1 := vs_write h.vs (h.vlog hg) _
theorem Inv.get4 (h : Inv R H S D) {g p : Nat} (hg : 7 * g < roomN S.n) (hp : p < roomN S.n) (load : ByteArray) (dev a : Int) (hd : dev = 0 ∨ dev = 1) (ha : 0 ≤ a) :
    (fd4 R S D g p (atOf S.from' p) load).get dev a = if dev = 1 ∧ a = (atOf S.from' p : Nat) then load else if dev = 1 ∧ a = (S.from' : Int) + 8 * g then encB R (S.seq + 1) (groupE { S with M := dropM S.M p } g (secs S.n g)) else D.get dev a := by
  unfold fd4
  rw [get_flush (vs_write (D := (fd1 R S D g p).flush) (vs_flush _) (valid_flush.2 (show D.valid _ _ from h.vat hp)) load) dev a hd ha, get_write, get_flush (h.vs1 hg p) dev a hd ha]
  unfold fd1
  rw [get_write]
theorem Inv.get5 (h : Inv R H S D) {g p : Nat} (hg : 7 * g < roomN S.n) (hp : p < roomN S.n) (key load : ByteArray) (dev a : Int) (hd : dev = 0 ∨ dev = 1) (ha : 0 ≤ a) :
    (fd5 R S D g p key load).get dev a = if dev = 1 ∧ a = (S.from' : Int) + 8 * g then encB R (S.seq + 1 + 1) (groupE { S with M := feM R S p key load } g (secs S.n g)) else if dev = 1 ∧ a = (atOf S.from' p : Nat) then load else D.get dev a := by
  unfold fd5
  rw [get_write, h.get4 hg hp load dev a hd ha]
  by_cases h1 : dev = 1 ∧ a = (S.from' : Int) + 8 * g
  · rw [if_pos h1, if_pos h1]
  · rw [if_neg h1, if_neg h1, if_neg h1]

/-- behind the first half of a feeding: the entry is dropped -/
theorem Inv.half (h : Inv R H S D) (hw : D.ws.length ≤ 900) {p : Nat} (hp : p < roomN S.n) (load : ByteArray) :
    Inv R H { S with M := dropM S.M p, seq := S.seq + 1 } (fd4 R S D (p / 7) p (atOf S.from' p) load) := by
  have hg : 7 * (p / 7) < roomN S.n := by omega
  refine ⟨?_, vs_flush _, h.hand, ?_, ?_, ?_⟩
  · unfold fd4 fd1
    exact Fit.cast (Fit.flush (Fit.write (Fit.flush (Fit.write h.fit _ _ (by omega))) _ _ (by simp [Dv.flush]))) rfl rfl
  · intro q x hx
    simp only [dropM] at hx
    split at hx
    · cases hx
    · exact h.ats q x hx
  · intro g' hg'
    unfold LogOk
    simp only
    rw [h.get4 hg hp load 1 _ (.inr rfl) (by omega), if_neg (fun hh => atOf_log hh.2.symm)]
    by_cases hgg : g' = p / 7
    · subst hgg
      rw [if_pos ⟨rfl, rfl⟩]
      exact .inr ⟨S.seq + 1, Nat.le_refl _, rfl⟩
    · rw [if_neg (fun hh => hgg (log_inj hh.2))]
      have e : groupE { S with M := dropM S.M p, seq := S.seq + 1 } g' (secs S.n g') = groupE S g' (secs S.n g') := groupE_congr _ (fun i _ => by
        have := i.isLt
        simp only [dropM]
        rw [if_neg (by omega)])
      rw [e]
      rcases h.logs g' hg' with h1 | ⟨q, hq, h1⟩
      · exact .inl h1
      · exact .inr ⟨q, by omega, h1⟩
  · intro q x hx
    simp only [dropM] at hx
    split at hx
    · cases hx
    · rename_i hqp
      obtain ⟨h1, h2, h3⟩ := h.ats q x hx
      have hd := h.data q x hx
      rw [h3] at hd ⊢
      rw [h.get4 hg hp load 1 _ (.inr rfl) (by omega), if_neg (fun hh => hqp (atOf_inj (f := S.from') (by omega))), if_neg (fun hh => atOf_log hh.2)]
      exact hd

/-- behind a feeding -/
theorem Inv.feed (h : Inv R H S D) (hw : D.ws.length ≤ 900) (key load : ByteArray) (hgood : goodFeed key load) (hH : H key load) : Inv R H (feedN R key load (S, D)).1 (feedN R key load (S, D)).2 := by
  rw [feedN_eq]
  have hp := h.hand
  obtain ⟨p, hpp⟩ : ∃ p, S.hand = p := ⟨_, rfl⟩
  rw [hpp] at hp ⊢
  have hg : 7 * (p / 7) < roomN S.n := by omega
  have hreg := h.fit.reg
  have hlen := h.fit.len
  refine ⟨?_, ?_, ?_, ?_, ?_, ?_⟩
  · unfold fd5 fd4 fd1
    exact Fit.cast (Fit.write (Fit.flush (Fit.write (Fit.flush (Fit.write h.fit _ _ (by omega))) _ _ (by simp [Dv.flush]))) _ _ (by simp [Dv.flush])) rfl rfl
  · exact vs_write (vs_flush _) (valid_flush.2 (valid_write.2 (valid_flush.2 (valid_write.2 (h.vlog hg))))) _
  · exact Nat.mod_lt _ (by omega)
  · intro q x hx
    simp only [feM, setM, dropM] at hx
    split at hx
    · rename_i e
      cases hx
      subst e
      have := place_in (n := S.n) (g := q / 7) (i := q % 7) (by omega) (by omega)
      exact ⟨hp, ⟨hgood.1, hgood.2.1, sumOf_size _ _, hgood.2.2, by show atOf _ _ ≤ _; unfold atOf; omega⟩, rfl⟩
    · exact h.ats q x hx
  · intro g' hg'
    unfold LogOk
    simp only
    rw [h.get5 hg hp key load 1 _ (.inr rfl) (by omega)]
    by_cases hgg : g' = p / 7
    · subst hgg
      rw [if_pos ⟨rfl, rfl⟩]
      exact .inr ⟨S.seq + 1 + 1, Nat.le_refl _, rfl⟩
    · rw [if_neg (fun hh => hgg (log_inj hh.2)), if_neg (fun hh => atOf_log hh.2.symm)]
      have e : groupE { S with M := feM R S p key load, seq := S.seq + 1 + 1, hand := (p + 1) % roomN S.n } g' (secs S.n g') = groupE S g' (secs S.n g') := groupE_congr _ (fun i _ => by
        have := i.isLt
        simp only [feM, setM, dropM]
        rw [if_neg (by omega), if_neg (by omega)])
      rw [e]
      rcases h.logs g' hg' with h1 | ⟨q, hq, h1⟩
      · exact .inl h1
      · exact .inr ⟨q, by omega, h1⟩
  · intro q x hx
    simp only [feM, setM, dropM] at hx
    split at hx
    · rename_i e
      cases hx
      subst e
      simp only
      rw [h.get5 hg hp key load 1 _ (.inr rfl) (by omega), if_neg (fun hh => atOf_log hh.2), if_pos ⟨rfl, rfl⟩]
      exact ⟨rfl, rfl, hH⟩
    · rename_i hqp
      obtain ⟨h1, h2, h3⟩ := h.ats q x hx
      have hd := h.data q x hx
      rw [h3] at hd ⊢
      rw [h.get5 hg hp key load 1 _ (.inr rfl) (by omega), if_neg (fun hh => atOf_log hh.2), if_neg (fun hh => hqp (atOf_inj (f := S.from') (by omega)))]
      exact hd
theorem feedN_ws (key load : ByteArray) : (feedN R key load (S, D)).2.ws.length ≤ 1 := by
  rw [feedN_eq]; simp [fd5, fd4, Dv.write, Dv.flush]
end
end Go.Proofs.YtbhokalnkfdekaaDoor
