/- The laws' helper plain: may all be fed, no key twice? -/
import Derived.Test.YtbhokalnkfdekaaDoorSecp
namespace Go.Proofs.YtbhokalnkfdekaaDoor
open Go.RowKit
open Go.Proofs Go.Maps

abbrev Fe := ByteArray × ByteArray
/-- a slice of what is fed -/
def Feds (w : World) (v : Value) (l : List Fe) : Prop :=
  (l = [] ∧ ∃ p c, v = .slice p 0 c) ∨ (∃ g off c, v = .slice (some ⟨g, off, none⟩) l.length c ∧ g < w.heap.size ∧ ∀ i x, l[i]? = some x → w.cell? ⟨g, off + i * 2, none⟩ = some (.string x.1) ∧ w.cell? ⟨g, off + i * 2 + 1, none⟩ = some (.string x.2))
theorem Feds.kept {w w' : World} {v : Value} {l : List Fe} (h : Feds w v l) (hk : Kept w w') : Feds w' v l := by
  rcases h with h | ⟨g, off, c, e, hg, hx⟩
  · exact .inl h
  · refine .inr ⟨g, off, c, e, Nat.lt_of_lt_of_le hg hk.size, fun i x hi => ?_⟩
    obtain ⟨h1, h2⟩ := hx i x hi
    exact ⟨(hk.cell (p := ⟨g, off + i * 2, none⟩) hg).trans h1, (hk.cell (p := ⟨g, off + i * 2 + 1, none⟩) hg).trans h2⟩
theorem Feds.slice {w : World} {v : Value} {l : List Fe} (h : Feds w v l) : ∃ p c, v = .slice p l.length c := by
  rcases h with ⟨rfl, p, c, e⟩ | ⟨g, off, c, e, _⟩
  · exact ⟨p, c, e⟩
  · exact ⟨_, c, e⟩
theorem Feds.blk {w : World} {p : Option Addr} {n c : Nat} {l : List Fe} (h : Feds w (.slice p n c) l) (hl : 0 < l.length) : ∃ g off, p = some ⟨g, off, none⟩ ∧ g < w.heap.size ∧ ∀ i x, l[i]? = some x → w.cell? ⟨g, off + i * 2, none⟩ = some (.string x.1) ∧ w.cell? ⟨g, off + i * 2 + 1, none⟩ = some (.string x.2) := by
  rcases h with ⟨rfl, _⟩ | ⟨g, off, c, e, hg, hx⟩
  · simp at hl
  · cases e; exact ⟨g, off, rfl, hg, hx⟩

def okFe (x : Fe) : Prop := 1 ≤ x.1.size ∧ x.1.size ≤ 60 ∧ x.2.size ≤ 960
structure PlainP (l : List Fe) : Prop where
  ok : ∀ x ∈ l, okFe x
  ne : ∀ (i j : Nat) (x y : Fe), i < j → l[i]? = some x → l[j]? = some y → x.1 ≠ y.1
  le : l.length ≤ 30
/-- so far -/
def PlainTo (l : List Fe) (k : Nat) : Prop := (∀ (i : Nat) (x : Fe), i < k → l[i]? = some x → okFe x) ∧ ∀ (i j : Nat) (x y : Fe), i < j → j < k → l[i]? = some x → l[j]? = some y → x.1 ≠ y.1
theorem bytes_list {a c : ByteArray} (h : a = c) : a.toList = c.toList := by rw [h]

/-- what plain answers -/
def PlainIs (l : List Fe) (w : World) (e : Ending) (w' : World) : Prop := ∃ b, e = .returned (.bool b) ∧ (b = true ↔ PlainP l) ∧ Kept w w'

set_option maxRecDepth 100000 in
set_option maxHeartbeats 4000000 in
theorem plain_any (v : Value) (l : List Fe) (w : World) (h : Feds w v l) (hl : l.length ≤ 9223372036854775807) :
    Calls Tryd.prog 5 #[v] w (PlainIs l w) := by
  obtain ⟨p, c, rfl⟩ := h.slice
  obtain ⟨L, hL⟩ : ∃ L, l.length = L := ⟨_, rfl⟩
  rw [hL] at hl ⊢
  have H := Lib.hid h
  have HL := Lib.hid hL
  clear h hL
  go_enter Tryd.func5, Tryd.ntmps5
  go_wp2
  go_loopw [3] (fun i wr => ∃ k : Nat, k ≤ L ∧ i = .int .i64 k ∧ PlainTo l k ∧ Kept w wr) (fun i _ => L - (intOf i).toNat)
  case atStart => exact ⟨0, by omega, rfl, ⟨fun i x hi => absurd hi (by omega), fun i j x y _ hj => absurd hj (by omega)⟩, Kept.refl _⟩
  case round =>
    obtain ⟨k, hk, rfl, hto, hkr⟩ := hrel
    by_cases hkL : k < L
    · obtain ⟨g, off, rfl, hg, hcs⟩ := H.out.blk (by have := HL.out; omega)
      obtain ⟨x, hx⟩ : ∃ x, l[k]? = some x := ⟨_, List.getElem?_eq_getElem (by have := HL.out; omega)⟩
      obtain ⟨c0, c1⟩ := ((H.out.kept hkr).blk (by have := HL.out; omega)).elim (fun g' h' => h'.elim (fun off' h'' => by
        obtain ⟨e, _, hc⟩ := h''
        cases e
        exact hc k x hx))
      have HX := Lib.hid hx
      have HTO := Lib.hid hto
      have HKR := Lib.hid hkr
      have HCS := Lib.hid hcs
      clear hx hto hkr hcs
      by_cases ho : okFe x
      · have HO := Lib.hid ho
        obtain ⟨o1, o2, o3⟩ := ho
        have o1' : ¬ (x.1.size : Int) < 1 := by omega
        have o2' : ¬ (60 : Int) < x.1.size := by omega
        have o3' : ¬ (960 : Int) < x.2.size := by omega
        go_wp2_with fail
        obtain ⟨wo, rfl⟩ : ∃ wo : World, wo = wr := ⟨_, rfl⟩
        go_loopw [4] (fun i wr => ∃ j : Nat, j ≤ k ∧ i = .int .i64 j ∧ (∀ i y, i < j → l[i]? = some y → y.1 ≠ x.1) ∧ Kept wo wr) (fun i _ => k - (intOf i).toNat)
        case atStart => exact ⟨0, by omega, rfl, fun i y hi => absurd hi (by omega), Kept.refl _⟩
        case round =>
          obtain ⟨j, hj, rfl, hno, hkr2⟩ := hrel
          by_cases hjk : j < k
          · obtain ⟨y, hy⟩ : ∃ y, l[j]? = some y := ⟨_, List.getElem?_eq_getElem (by have := HL.out; omega)⟩
            have hcd := (((H.out.kept HKR.out).kept hkr2)).blk (by have := HL.out; omega)
            obtain ⟨d0, e0⟩ := hcd.elim (fun g' h' => h'.elim (fun off' h'' => by
              obtain ⟨e, _, hc⟩ := h''
              cases e
              exact And.intro (hc j y hy).1 (hc k x HX.out).1))
            have HY := Lib.hid hy
            have HNO := Lib.hid hno
            have HKR2 := Lib.hid hkr2
            clear hy hno hkr2 hcd
            have hj1 : (0 : Int) ≤ j := by omega
            have hj2 : (j : Int) < L := by omega
            have hk1 : (0 : Int) ≤ k := by omega
            have hk2 : (k : Int) < L := by omega
            by_cases hxy : y.1 = x.1
            · have hb : (y.1.toList == x.1.toList) = true := by simp [hxy]
              have HXY := Lib.hid hxy
              clear hxy
              go_wp2_with fail
              go_quiet (fail)
              go_wp2
              go_ret
              exact ⟨false, rfl, ⟨(fun e => by cases e), fun hp => absurd HXY.out (hp.ne j k y x hjk HY.out HX.out)⟩, Kept.trans HKR.out (Kept.trans HKR2.out (Below.drewN (Below.refl _ _) _))⟩
            · have hb : (y.1.toList == x.1.toList) = false := by simpa using bytes_ne hxy
              have HXY := Lib.hid hxy
              clear hxy
              go_wp2_with fail
              go_quiet (fail)
              go_wp2
              go_roundw
              case rel =>
                refine ⟨j + 1, by omega, by go_num, fun i z hi hz => ?_, Kept.trans HKR2.out (Below.drewN (Below.refl _ _) _)⟩
                by_cases hij : i = j
                · subst hij
                  rw [HY.out] at hz
                  cases hz
                  exact HXY.out
                · exact HNO.out i z (by omega) hz
              case measure => simp [intOf]; omega
          · obtain rfl : j = k := by omega
            have HNO := Lib.hid hno
            have HKR2 := Lib.hid hkr2
            clear hno hkr2
            go_wp2
            go_roundw
            case rel =>
              refine ⟨j + 1, by omega, by go_num, ⟨fun i z hi hz => ?_, fun i i2 z z2 hii hi2 hz hz2 => ?_⟩, Kept.trans HKR.out HKR2.out⟩
              · by_cases hij : i = j
                · subst hij
                  rw [HX.out] at hz
                  cases hz
                  exact HO.out
                · exact HTO.out.1 i z (by omega) hz
              · by_cases hij : i2 = j
                · subst hij
                  rw [HX.out] at hz2
                  cases hz2
                  exact HNO.out i z hii hz
                · exact HTO.out.2 i i2 z z2 hii (by omega) hz hz2
            case measure => simp [intOf]; omega
      · have HO := Lib.hid ho
        have hno : ¬ PlainP l := fun hp => ho (hp.ok x (List.mem_of_getElem? HX.out))
        have HNO := Lib.hid hno
        clear ho hno
        by_cases o1 : (x.1.size : Int) < 1
        · go_wp2
          go_ret
          exact ⟨false, rfl, ⟨(fun e => by cases e), fun hp => absurd hp HNO.out⟩, HKR.out⟩
        · by_cases o2 : (60 : Int) < x.1.size
          · go_wp2
            go_ret
            exact ⟨false, rfl, ⟨(fun e => by cases e), fun hp => absurd hp HNO.out⟩, HKR.out⟩
          · have o3 : (960 : Int) < x.2.size := by
              have := HO.out
              unfold okFe at this
              omega
            go_wp2
            go_ret
            exact ⟨false, rfl, ⟨(fun e => by cases e), fun hp => absurd hp HNO.out⟩, HKR.out⟩
    · obtain rfl : k = L := by omega
      have HTO := Lib.hid hto
      have HKR := Lib.hid hkr
      clear hto hkr
      by_cases h30 : (k : Int) ≤ 30
      · go_wp2
        go_ret
        refine ⟨true, rfl, ⟨fun _ => ⟨fun x hx => ?_, fun i j x y hij hx hy => ?_, by have := HL.out; omega⟩, fun _ => rfl⟩, HKR.out⟩
        · obtain ⟨i, hi⟩ := List.mem_iff_getElem?.1 hx
          exact HTO.out.1 i x (by have := (List.getElem?_eq_some_iff.1 hi).1; have := HL.out; omega) hi
        · exact HTO.out.2 i j x y hij (by have := (List.getElem?_eq_some_iff.1 hy).1; have := HL.out; omega) hx hy
      · go_wp2
        go_ret
        exact ⟨false, rfl, ⟨(fun e => by cases e), fun hp => by have := hp.le; have := HL.out; omega⟩, HKR.out⟩
end Go.Proofs.YtbhokalnkfdekaaDoor
