/- Devices that are well: what a write and a flush leave as it was. -/
import Derived.Test.YtbhokalnkfdekaaDoorSecg
namespace Go.Proofs.YtbhokalnkfdekaaDoor
open Go.RowKit
open Go.Proofs Go.Maps

theorem Dv.put_shape (D : Dv) (x : Int × Int × ByteArray) : (D.put x).s0.length = D.s0.length ∧ (D.put x).s1.length = D.s1.length ∧ (D.put x).l0 = D.l0 ∧ (D.put x).l1 = D.l1 ∧ (D.put x).ws = D.ws := by
  unfold Dv.put
  split <;> simp
theorem Dv.puts_shape (l : List (Int × Int × ByteArray)) : ∀ D : Dv, (D.puts l).s0.length = D.s0.length ∧ (D.puts l).s1.length = D.s1.length ∧ (D.puts l).l0 = D.l0 ∧ (D.puts l).l1 = D.l1 := by
  induction l with
  | nil => intro D; exact ⟨rfl, rfl, rfl, rfl⟩
  | cons x l ih =>
    intro D
    obtain ⟨h1, h2, h3, h4⟩ := ih (D.put x)
    obtain ⟨k1, k2, k3, k4, _⟩ := D.put_shape x
    exact ⟨h1.trans k1, h2.trans k2, h3.trans k3, h4.trans k4⟩

/-- a cache and its devices are well -/
structure Fit (S : Sc) (D : Dv) : Prop where
  two : 2 ≤ S.n
  reg : S.from' + S.n ≤ D.s1.length
  len : D.s1.length ≤ 512
  l1 : D.l1 = false
  ws : D.ws.length ≤ 1000
theorem Fit.valid {S : Sc} {D : Dv} (h : Fit S D) {a : Int} (h0 : 0 ≤ a) (h1 : a < S.from' + S.n) : D.valid 1 a := .inr ⟨rfl, h0, by have := h.reg; omega⟩
theorem Fit.lost {S : Sc} {D : Dv} (h : Fit S D) : D.lost 1 = false := by simp [Dv.lost, h.l1]
theorem Fit.may {S : Sc} {D : Dv} (h : Fit S D) {a : Int} (h0 : 0 ≤ a) (h1 : a < S.from' + S.n) {k : Nat} (hk : k ≤ 1024) : D.may 1 a k = 0 := by
  simp [Dv.may, h.valid h0 h1, h.lost, hk]
theorem Fit.write {S : Sc} {D : Dv} (h : Fit S D) (a : Int) (t : ByteArray) (hw : D.ws.length ≤ 999) : Fit S (D.write 1 a t) := ⟨h.two, h.reg, h.len, h.l1, by simp [Dv.write]; omega⟩
theorem Fit.flush {S : Sc} {D : Dv} (h : Fit S D) : Fit S D.flush := by
  obtain ⟨k1, k2, k3, k4⟩ := Dv.puts_shape D.ws D
  exact ⟨h.two, by have := h.reg; show _ ≤ (D.puts D.ws).s1.length; rw [k2]; exact this, by show (D.puts D.ws).s1.length ≤ 512; rw [k2]; exact h.len, by show (D.puts D.ws).l1 = false; rw [k4]; exact h.l1, by show [].length ≤ 1000; simp⟩

/-- a log's text is small -/
theorem encB_small (R : List Int) (seq : Nat) (l : List En) (hok : OkB seq l) : (encB R seq l).size ≤ 1024 := by
  rw [encB_size]
  have h1 : (textL seq l).length = 9 + (bodyL l).length := by
    rw [textL, List.length_append]
    have : (hdT seq l.length).data.toList.length = 9 := by rw [Array.length_toList]; exact hdT_size _ _
    omega
  have h2 := bodyL_le l hok.2.2
  have h3 := hok.2.1
  omega
/-- a group that has a place has its log within the region -/
theorem log_in {n g : Nat} (h : 7 * g < roomN n) : 8 * g < n := by unfold roomN at h; omega
theorem place_in {n g i : Nat} (hi : i < 7) (h : 7 * g + i < roomN n) : 8 * g + 1 + i < n := by unfold roomN at h; omega
end Go.Proofs.YtbhokalnkfdekaaDoor
