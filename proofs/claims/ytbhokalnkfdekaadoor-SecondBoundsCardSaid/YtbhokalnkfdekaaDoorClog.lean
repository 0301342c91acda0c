/- Package clog: Check. -/
import Derived.Test.YtbhokalnkfdekaaDoorFix
import Derived.Test.YtbhokalnkfdekaaDoorDevg
namespace Go.Proofs.YtbhokalnkfdekaaDoor
open Go.RowKit
open Go.Proofs

structure En where
  key : ByteArray
  sum : ByteArray
  len : Nat
  at' : Nat
deriving DecidableEq

def enCells (x : En) : List Value := [.string x.key, .string x.sum, .int .i64 x.len, .int .i64 x.at']
def esCells (l : List En) : List Value := l.flatMap enCells
def OkEn (x : En) : Prop := 1 ≤ x.key.size ∧ x.key.size ≤ 60 ∧ x.sum.size = 32 ∧ x.len ≤ 960 ∧ x.at' ≤ 511

theorem esCells_at (l : List En) : ∀ (k : Nat) (x : En), l[k]? = some x → (esCells l)[k * 4]? = some (.string x.key) ∧ (esCells l)[k * 4 + 1]? = some (.string x.sum) ∧ (esCells l)[k * 4 + 2]? = some (.int .i64 x.len) ∧ (esCells l)[k * 4 + 3]? = some (.int .i64 x.at') := by
  induction l with
  | nil => intro k x h; simp at h
  | cons y l ih =>
    intro k x h
    have e : esCells (y :: l) = enCells y ++ esCells l := rfl
    cases k with
    | zero => simp at h; subst h; simp [e, enCells]
    | succ k =>
      have := ih k x (by simpa using h)
      have e4 : (k + 1) * 4 = k * 4 + 4 := by omega
      rw [e, e4]
      simp only [enCells, List.cons_append, List.nil_append, List.getElem?_cons_succ, Nat.add_assoc, Nat.reduceAdd]
      simpa [List.getElem?_cons_succ] using this
theorem esCells_length (l : List En) : (esCells l).length = l.length * 4 := by
  induction l with
  | nil => rfl
  | cons y l ih =>
    have e : esCells (y :: l) = enCells y ++ esCells l := rfl
    rw [e, List.length_append, ih]; simp [enCells]; omega

/-- entries in a row -/
def Row (w : World) (base : Nat) (v : Value) (l : List En) : Prop := w.ownsRow base 69 4 v l.length (esCells l)

theorem Row.slice {w : World} {base : Nat} {v : Value} {l : List En} (h : Row w base v l) : ∃ p c, v = .slice p l.length c := by
  rcases h.2 with ⟨e, h0⟩ | ⟨g, c, cur, e, _⟩
  · exact ⟨none, 0, by rw [e, h0]⟩
  · exact ⟨_, _, e⟩
theorem Row.blk {w : World} {base : Nat} {p : Option Addr} {n c : Nat} {l : List En} (h : Row w base (.slice p n c) l) (hl : 0 < l.length) : ∃ g, p = some ⟨g, 0, none⟩ ∧ base ≤ g ∧ g < w.heap.size := by
  rcases h.2 with ⟨e, h0⟩ | ⟨g, c, cur, e, hb, hg, _⟩
  · omega
  · cases e; exact ⟨g, rfl, hb, lt_blk hg⟩
theorem Row.cells {w : World} {base g c : Nat} {l : List En} (h : Row w base (.slice (some ⟨g, 0, none⟩) l.length c) l) {k : Nat} {x : En} (hx : l[k]? = some x) :
    w.cell? ⟨g, k * 4, none⟩ = some (.string x.key) ∧ w.cell? ⟨g, k * 4 + 1, none⟩ = some (.string x.sum) ∧ w.cell? ⟨g, k * 4 + 2, none⟩ = some (.int .i64 x.len) ∧ w.cell? ⟨g, k * 4 + 3, none⟩ = some (.int .i64 x.at') :=
  ⟨ownsRow_cell h _ _ (esCells_at _ _ _ hx).1, ownsRow_cell h _ _ (esCells_at _ _ _ hx).2.1, ownsRow_cell h _ _ (esCells_at _ _ _ hx).2.2.1, ownsRow_cell h _ _ (esCells_at _ _ _ hx).2.2.2⟩
theorem Row.kept {w w' : World} {base : Nat} {v : Value} {l : List En} (h : Row w base v l) (hk : Kept w w') : Row w' base v l := ownsRow_heap h (fun k hkk => hk.heap (World.ownsRow.lt h k hkk).2)

theorem in_any (n : Nat) (m : Nat) (w : World) (h : n ≤ m) : Calls Tryd.prog 68 #[.int .i64 n, .int .i64 m] w fun e w' => e = .returned (.bool true) ∧ w' = w := by
  go_enter Tryd.func68, Tryd.ntmps68
  go_wp2
  go_ret
  exact ⟨rfl, rfl⟩

theorem key_ne (s : ByteArray) (h : 1 ≤ s.size) : ¬ s.toList = [] := by
  rw [ByteArray.toList_eq]
  intro e
  have : s.data.toList.length = 0 := by rw [e]; rfl
  rw [Array.length_toList] at this
  have h2 : s.size = s.data.size := rfl
  omega

set_option maxRecDepth 100000 in
set_option maxHeartbeats 1000000 in
theorem wrong_ok (x : En) (w : World) (h : OkEn x) : Calls Tryd.prog 67 #[.agg (enCells x).toArray] w fun e w' => e = .returned (.bool false) ∧ Kept w w' := by
  obtain ⟨h1, h2, h3, h4, h5⟩ := h
  have hne : ¬ x.key.toList = [] := key_ne x.key h1
  have hk60 : ¬ (60 : Int) < x.key.size := by omega
  simp only [enCells]
  go_enter Tryd.func67, Tryd.ntmps67
  go_wp2_with (go_at_call 68; refine (in_any _ _ _ (by assumption)).mono ?_; rintro e w1 ⟨rfl, rfl⟩)
  go_ret
  exact ⟨by simp [hne], (by repeat (first | exact Below.refl _ _ | assumption | refine Below.drewN ?_ _ | refine Below.drew ?_ | (refine Below.alloc' _ ?_ ?_; (focus ((first | omega | (simp; done) | (simp; omega))))) | (refine Below.setCell' _ ?_ ?_; (focus ((first | omega | (simp; done) | (simp; omega)))))))⟩

set_option maxRecDepth 100000 in
set_option maxHeartbeats 1000000 in
theorem indexfunc_ok (base : Nat) (v : Value) (l : List En) (w : World) (h : Row w base v l) (hok : ∀ x ∈ l, OkEn x) (hl : l.length ≤ 1000) :
    Calls Tryd.prog 87 #[v, .func (.func 67) #[] #[]] w fun e w' => e = .returned (.int .i64 (-1)) ∧ Kept w w' := by
  obtain ⟨p, c, rfl⟩ := h.slice
  have H := Lib.hid h
  have HOK := Lib.hid hok
  clear h hok
  go_enter Tryd.func87, Tryd.ntmps87
  go_wp2
  go_loopw [8] (fun i wr => ∃ k : Nat, k ≤ l.length ∧ i = .int .i64 k ∧ Kept w wr) (fun i _ => l.length - (intOf i).toNat)
  case atStart => exact ⟨0, by omega, rfl, Kept.refl _⟩
  case round =>
    obtain ⟨k, hk, rfl, hkr⟩ := hrel
    by_cases hlt : k < l.length
    · obtain ⟨x, hx⟩ : ∃ x, l[k]? = some x := ⟨_, List.getElem?_eq_getElem hlt⟩
      have hr := H.out.kept hkr
      obtain ⟨g, rfl, _, hgl⟩ := hr.blk (by omega)
      obtain ⟨e0, e1, e2, e3⟩ := hr.cells hx
      have hsz := hkr.size
      have HC := Lib.hid (wrong_ok x wr (HOK.out x (List.mem_of_getElem? hx)))
      simp only [enCells] at HC
      have HK := Lib.hid hkr
      have HX := Lib.hid hx
      clear hr hkr hx
      go_wp2_with (go_at_call 67; refine HC.out.mono ?_; rintro e w1 ⟨rfl, hk1⟩)
      go_roundw
      case rel => exact ⟨k + 1, by omega, by go_num, Kept.trans HK.out hk1⟩
      case measure => simp [intOf]; omega
    · obtain rfl : k = l.length := by omega
      go_wp2
      go_ret
      exact ⟨rfl, hkr⟩

theorem containsfunc_ok (base : Nat) (v : Value) (l : List En) (w : World) (h : Row w base v l) (hok : ∀ x ∈ l, OkEn x) (hl : l.length ≤ 1000) :
    Calls Tryd.prog 69 #[v, .func (.func 67) #[] #[]] w fun e w' => e = .returned (.bool false) ∧ Kept w w' := by
  have HC := Lib.hid (indexfunc_ok base v l w h hok hl)
  clear h hok
  go_enter Tryd.func69, Tryd.ntmps69
  go_wp2_with fail
  refine HC.out.mono ?_
  rintro e w1 ⟨rfl, hk⟩
  go_wp2
  go_ret
  exact ⟨rfl, hk⟩

def OkB (seq : Nat) (l : List En) : Prop := seq ≤ 1099511627776 ∧ l.length ≤ 7 ∧ ∀ x ∈ l, OkEn x

set_option maxRecDepth 100000 in
set_option maxHeartbeats 1000000 in
theorem check_ok (base : Nat) (v : Value) (seq : Nat) (l : List En) (w : World) (h : Row w base v l) (hok : OkB seq l) :
    Calls Tryd.prog 52 #[.agg #[.int .i64 seq, v]] w fun e w' => e = .returned (.int .i64 0) ∧ Kept w w' := by
  obtain ⟨p, c, rfl⟩ := h.slice
  obtain ⟨hs, hl, hes⟩ := hok
  have H := Lib.hid h
  have HE := Lib.hid hes
  clear h hes
  go_enter Tryd.func52, Tryd.ntmps52
  go_wp2_with (first
    | (go_at_call 68; refine (in_any _ _ _ hs).mono ?_; rintro e w1 ⟨rfl, rfl⟩)
    | (go_at_call 69; refine (containsfunc_ok base _ l _ (H.out.kept (by repeat (first | exact Below.refl _ _ | assumption | refine Below.drewN ?_ _ | refine Below.drew ?_ | (refine Below.alloc' _ ?_ ?_; (focus ((first | omega | (simp; done) | (simp; omega))))) | (refine Below.setCell' _ ?_ ?_; (focus ((first | omega | (simp; done) | (simp; omega)))))))) HE.out (by omega)).mono ?_; rintro e w2 ⟨rfl, hk2⟩))
  go_ret
  exact ⟨rfl, Below.trans (by repeat (first | exact Below.refl _ _ | assumption | refine Below.drewN ?_ _ | refine Below.drew ?_ | (refine Below.alloc' _ ?_ ?_; (focus ((first | omega | (simp; done) | (simp; omega))))) | (refine Below.setCell' _ ?_ ?_; (focus ((first | omega | (simp; done) | (simp; omega))))))) (Below.mono hk2 (by simp))⟩
end Go.Proofs.YtbhokalnkfdekaaDoor
