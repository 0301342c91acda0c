/- Package clog: Encode. -/
import Derived.Test.YtbhokalnkfdekaaDoorClog
import Derived.Deep.RegionHeld3
namespace Go.Proofs.YtbhokalnkfdekaaDoor
open Go.RowKit
open Go.Proofs

def hdT (seq n : Nat) : ByteArray := ⟨#[80, 76]⟩ ++ le 6 seq ++ le 1 n
def enT (x : En) : ByteArray := le 1 x.key.size ++ x.key ++ x.sum ++ le 2 x.len ++ le 2 x.at'
def bodyL : List En → List UInt8
  | [] => []
  | x :: l => (enT x).data.toList ++ bodyL l
theorem bodyL_snoc : ∀ (l : List En) (x : En), bodyL (l ++ [x]) = bodyL l ++ (enT x).data.toList
  | [], x => by simp [bodyL]
  | y :: l, x => by simp [bodyL, bodyL_snoc l x]
def textL (seq : Nat) (l : List En) : List UInt8 := (hdT seq l.length).data.toList ++ bodyL l
/-- a block's text -/
def encB (R : List Int) (seq : Nat) (l : List En) : ByteArray := ⟨(textL seq l).toArray⟩ ++ sumOf R ⟨(textL seq l).toArray⟩

theorem hdT_size (seq n : Nat) : (hdT seq n).size = 9 := by
  unfold hdT; simp only [ByteArray.size_append, le_size]; rfl
theorem enT_size (x : En) (h : OkEn x) : (enT x).size = x.key.size + 37 := by
  unfold enT; simp only [ByteArray.size_append, le_size, h.2.2.1]; omega
theorem bodyL_le (l : List En) (h : ∀ x ∈ l, OkEn x) : (bodyL l).length ≤ 97 * l.length := by
  induction l with
  | nil => simp [bodyL]
  | cons x l ih =>
    have h1 := ih (fun y hy => h y (by simp [hy]))
    have h2 := enT_size x (h x (by simp))
    have h3 := (h x (by simp)).2.1
    have h4 : (enT x).data.toList.length = (enT x).size := by rw [Array.length_toList]; rfl
    simp only [bodyL, List.length_append, List.length_cons, h4]
    omega
theorem strCells_eq (s : ByteArray) : Lib.strCells s = Lib.byteCells s.data.toList := by
  simp [Lib.strCells, Lib.byteCells]

theorem S2_below {bx : Nat} {v0 v1 : Value} {w1 w w' : World} (hk : Below w1.heap.size w w') (hlt : bx < w1.heap.size) (h : w.cell? ⟨bx, 0, none⟩ = some v0 ∧ w.cell? ⟨bx, 1, none⟩ = some v1 ∧ Kept w1 w) :
    w'.cell? ⟨bx, 0, none⟩ = some v0 ∧ w'.cell? ⟨bx, 1, none⟩ = some v1 ∧ Kept w1 w' :=
  ⟨by rw [hk.cell hlt]; exact h.1, by rw [hk.cell hlt]; exact h.2.1, Below.trans h.2.2 hk⟩
theorem S2_kept {bx : Nat} {v0 v1 : Value} {w1 w w' : World} (hk : Kept w w') (hlt : bx < w1.heap.size) (h : w.cell? ⟨bx, 0, none⟩ = some v0 ∧ w.cell? ⟨bx, 1, none⟩ = some v1 ∧ Kept w1 w) :
    w'.cell? ⟨bx, 0, none⟩ = some v0 ∧ w'.cell? ⟨bx, 1, none⟩ = some v1 ∧ Kept w1 w' := S2_below (Below.mono hk h.2.2.size) hlt h

theorem S2_size {bx : Nat} {v0 v1 : Value} {w1 w : World} (h : w.cell? ⟨bx, 0, none⟩ = some v0 ∧ w.cell? ⟨bx, 1, none⟩ = some v1 ∧ Kept w1 w) : w1.heap.size ≤ w.heap.size := h.2.2.size

section
variable {q : Nat} {v0 v1 v2 v3 : Value} {w1 w w' : World}
theorem S4_of (h : w.heap[q]? = some (.cells #[v0, v1, v2, v3] 69 (0, 0))) (hk : Kept w1 w) :
    w.cell? ⟨q, 0, none⟩ = some v0 ∧ w.cell? ⟨q, 1, none⟩ = some v1 ∧ w.cell? ⟨q, 2, none⟩ = some v2 ∧ w.cell? ⟨q, 3, none⟩ = some v3 ∧ w.heap[q]? = some (.cells #[v0, v1, v2, v3] 69 (0, 0)) ∧ Kept w1 w :=
  ⟨by rw [cell_blk h]; rfl, by rw [cell_blk h]; rfl, by rw [cell_blk h]; rfl, by rw [cell_blk h]; rfl, h, hk⟩
theorem S4_kept (hk : Kept w w') (h : w.cell? ⟨q, 0, none⟩ = some v0 ∧ w.cell? ⟨q, 1, none⟩ = some v1 ∧ w.cell? ⟨q, 2, none⟩ = some v2 ∧ w.cell? ⟨q, 3, none⟩ = some v3 ∧ w.heap[q]? = some (.cells #[v0, v1, v2, v3] 69 (0, 0)) ∧ Kept w1 w) :
    w'.cell? ⟨q, 0, none⟩ = some v0 ∧ w'.cell? ⟨q, 1, none⟩ = some v1 ∧ w'.cell? ⟨q, 2, none⟩ = some v2 ∧ w'.cell? ⟨q, 3, none⟩ = some v3 ∧ w'.heap[q]? = some (.cells #[v0, v1, v2, v3] 69 (0, 0)) ∧ Kept w1 w' :=
  S4_of ((hk.heap (lt_blk h.2.2.2.2.1)).trans h.2.2.2.2.1) (Kept.trans h.2.2.2.2.2 hk)
theorem S4_oth (hk : Below w1.heap.size w w') (ho : Oth w w') (h : w.cell? ⟨q, 0, none⟩ = some v0 ∧ w.cell? ⟨q, 1, none⟩ = some v1 ∧ w.cell? ⟨q, 2, none⟩ = some v2 ∧ w.cell? ⟨q, 3, none⟩ = some v3 ∧ w.heap[q]? = some (.cells #[v0, v1, v2, v3] 69 (0, 0)) ∧ Kept w1 w) :
    w'.cell? ⟨q, 0, none⟩ = some v0 ∧ w'.cell? ⟨q, 1, none⟩ = some v1 ∧ w'.cell? ⟨q, 2, none⟩ = some v2 ∧ w'.cell? ⟨q, 3, none⟩ = some v3 ∧ w'.heap[q]? = some (.cells #[v0, v1, v2, v3] 69 (0, 0)) ∧ Kept w1 w' :=
  S4_of ((ho _ _ _ _ h.2.2.2.2.1 (by decide) (by decide)).trans h.2.2.2.2.1) (Below.trans h.2.2.2.2.2 hk)
theorem S4_size (h : w.cell? ⟨q, 0, none⟩ = some v0 ∧ w.cell? ⟨q, 1, none⟩ = some v1 ∧ w.cell? ⟨q, 2, none⟩ = some v2 ∧ w.cell? ⟨q, 3, none⟩ = some v3 ∧ w.heap[q]? = some (.cells #[v0, v1, v2, v3] 69 (0, 0)) ∧ Kept w1 w) : w1.heap.size ≤ w.heap.size := h.2.2.2.2.2.size
end

theorem roomy (k : Nat) (h : 1 ≤ k ∧ k ≤ 7) (n m : Nat) (hn : n ≤ m) (hm : (m : Int) ≤ 2 ^ (8 * k) - 1) : (n : Int) ≤ 2 ^ (8 * k) - 1 := by omega

set_option maxRecDepth 100000 in
set_option maxHeartbeats 4000000 in
theorem encode_ok (R : List Int) (base : Nat) (v : Value) (seq : Nat) (l : List En) (w : World) (hR : Roots w R) (h : Row w base v l) (hok : OkB seq l) :
    Calls Tryd.prog 37 #[.agg #[.int .i64 seq, v]] w fun e w' => e = .returned (.tuple #[.string (encB R seq l), .int .i64 0]) ∧ Kept w w' := by
  obtain ⟨p, c, rfl⟩ := h.slice
  obtain ⟨hs, hl, hes⟩ := id hok
  obtain ⟨W0, hW0⟩ : ∃ W0, w.alloc (.cells #[.int .i64 seq, .slice p l.length c] 57) = W0 := ⟨_, rfl⟩
  have hk0 : Kept w W0 := by rw [← hW0]; exact (by repeat (first | exact Below.refl _ _ | assumption | refine Below.drewN ?_ _ | refine Below.drew ?_ | (refine Below.alloc' _ ?_ ?_; (focus ((first | omega | (simp; done) | (simp; omega))))) | (refine Below.setCell' _ ?_ ?_; (focus ((first | omega | (simp; done) | (simp; omega)))))))
  have hb0 : W0.heap[w.heap.size]? = some (.cells #[.int .i64 seq, .slice p l.length c] 57) := by rw [← hW0]; exact heap_alloc_new' _ _
  have hz0 : W0.heap.size = w.heap.size + 1 := by rw [← hW0]; simp
  have c0 : W0.cell? ⟨w.heap.size, 0, none⟩ = some (.int .i64 seq) := by rw [cell_blk hb0]; rfl
  have c1 : W0.cell? ⟨w.heap.size, 1, none⟩ = some (.slice p l.length c) := by rw [cell_blk hb0]; rfl
  have HC := Lib.hid (check_ok base _ seq l W0 (h.kept hk0) hok)
  have HR := Lib.hid hR
  have H := Lib.hid h
  have HE := Lib.hid hes
  have HK0 := Lib.hid hk0
  have HB0 := Lib.hid hb0
  have HW0 := Lib.hid hW0
  clear hR h hok hes hk0 hW0 hb0
  go_enter Tryd.func37, Tryd.ntmps37
  go_wp2_with fail
  rw [HW0.out]
  refine HC.out.mono ?_
  rintro e w1 ⟨rfl, hk1⟩
  have hz1 := hk1.size
  have d0 : w1.cell? ⟨w.heap.size, 0, none⟩ = some (.int .i64 seq) := by rw [hk1.cell (by show w.heap.size < _; omega)]; exact c0
  have d1 : w1.cell? ⟨w.heap.size, 1, none⟩ = some (.slice p l.length c) := by rw [hk1.cell (by show w.heap.size < _; omega)]; exact c1
  have HK1 := Lib.hid hk1
  clear hk1 c0 c1 HC
  go_wp2_with fail
  obtain ⟨W2, hW2⟩ : ∃ W2, w1.alloc (.cells #[.pointer none, .slice none 0 0] 106) = W2 := ⟨_, rfl⟩
  have hk2 : Kept w1 W2 := by rw [← hW2]; exact (by repeat (first | exact Below.refl _ _ | assumption | refine Below.drewN ?_ _ | refine Below.drew ?_ | (refine Below.alloc' _ ?_ ?_; (focus ((first | omega | (simp; done) | (simp; omega))))) | (refine Below.setCell' _ ?_ ?_; (focus ((first | omega | (simp; done) | (simp; omega)))))))
  have hbl : w.heap.size < w1.heap.size := by omega
  have hb2 : Lib.IsBuilder 106 5 w1.heap.size w1.heap.size [] W2.drew := by
    rw [← hW2]; exact builder_kept (builder_new w1 _ _) (Below.drew (Below.refl _ _))
  have hS : W2.drew.cell? ⟨w.heap.size, 0, none⟩ = some (.int .i64 seq) ∧ W2.drew.cell? ⟨w.heap.size, 1, none⟩ = some (.slice p l.length c) ∧ Kept w1 W2.drew :=
    S2_kept (Below.drew (Below.refl _ _)) hbl ⟨by rw [hk2.cell hbl]; exact d0, by rw [hk2.cell hbl]; exact d1, hk2⟩
  rw [hW2]
  clear hW2
  have h6 : (seq : Int) ≤ 2 ^ (8 * 6) - 1 := by omega
  have h1 : (l.length : Int) ≤ 2 ^ (8 * 1) - 1 := by omega
  have z6 := le_size 6 seq
  have z1 := le_size 1 l.length
  have zp : (⟨#[80, 76]⟩ : ByteArray).size = 2 := rfl
  have z9 := hdT_size seq l.length
  unfold hdT at z9
  go_region_held3 (fun w' => w'.cell? ⟨w.heap.size, 0, none⟩ = some (.int .i64 seq) ∧ w'.cell? ⟨w.heap.size, 1, none⟩ = some (.slice p l.length c) ∧ Kept w1 w') (first | assumption | exact S2_below (by assumption) hbl (by assumption) | exact S2_kept (by assumption) hbl (by assumption))
    (first
      | (go_at_call_of 54 (Value.int .i64 6); refine (put_ok seq 6 _ (by omega) (by omega) h6).mono ?_; rintro e w' ⟨rfl, hk⟩; have hb := builder_kept (by assumption) hk)
      | (go_at_call_of 54 (Value.int .i64 1); refine (put_ok l.length 1 _ (by omega) (by omega) h1).mono ?_; rintro e w' ⟨rfl, hk⟩; have hb := builder_kept (by assumption) hk)
      | (go_at_call 53; refine (bws_any w1.heap.size w1.heap.size [] _ _ (by assumption) (by simp [z6, z1, zp]) (S2_size (by assumption))).mono ?_; rintro e w' ⟨rfl, hb', hk, _⟩))
  have hk1' : Kept w1 w' := by (rename_i hS' ; exact hS'.2.2)
  have HB1 := Lib.hid hb'
  have HK1' := Lib.hid hk1'
  have HKA := Lib.hid (Kept.trans HK0.out HK1.out)
  clear hb' hk1' d0 d1 hS hb2 hk2 z9 z6 z1 zp h6 h1
  go_wp2
  go_loopw [26] (fun i wr => ∃ k : Nat, k ≤ l.length ∧ i = .int .i64 k ∧ Lib.IsBuilder 106 5 w1.heap.size w1.heap.size (Lib.byteCells ((hdT seq l.length).data.toList ++ bodyL (l.take k))) wr ∧ Kept w1 wr) (fun i _ => l.length - (intOf i).toNat)
  case atStart =>
    have hb := HB1.out
    rw [List.nil_append, strCells_eq] at hb
    have e : (hdT seq l.length).data.toList ++ bodyL (l.take 0) = (hdT seq l.length).data.toList := by rw [List.take_zero]; exact List.append_nil _
    exact ⟨0, by omega, rfl, .inr (by rw [e]; exact hb), HK1'.out⟩
  case round =>
    obtain ⟨k, hk, rfl, hb, hkr⟩ := hrel
    have hr := H.out.kept (Kept.trans HKA.out hkr)
    have hzr := hkr.size
    have HB := Lib.hid hb
    have HKR := Lib.hid hkr
    clear hb hkr
    by_cases hlt : k < l.length
    · obtain ⟨x, hx⟩ : ∃ x, l[k]? = some x := ⟨_, List.getElem?_eq_getElem hlt⟩
      obtain ⟨g, rfl, _, hgl⟩ := hr.blk (by omega)
      obtain ⟨e0, e1, e2, e3⟩ := hr.cells hx
      have hox := HE.out x (List.mem_of_getElem? hx)
      have hbl' := bodyL_le (l.take k) (fun y hy => HE.out y (List.mem_of_mem_take hy))
      have htk : l.take (k + 1) = l.take k ++ [x] := by rw [List.take_add_one, hx]; rfl
      have HTK := Lib.hid htk
      have HOX := Lib.hid hox
      obtain ⟨o1, o2, o3, o4, o5⟩ := hox
      have HX := Lib.hid hx
      clear hr hx htk
      have hq := enT_size x HOX.out
      unfold enT at hq
      have hS := S4_of (w := (wr.alloc (.cells #[.string x.key, .string x.sum, .int .i64 x.len, .int .i64 x.at'] 69)).drew) (q := wr.heap.size) (w1 := w1) (heap_alloc_new' _ _) (by have := HKR.out; exact (by repeat (first | exact Below.refl _ _ | assumption | refine Below.drewN ?_ _ | refine Below.drew ?_ | (refine Below.alloc' _ ?_ ?_; (focus ((first | omega | (simp; done) | (simp; omega))))) | (refine Below.setCell' _ ?_ ?_; (focus ((first | omega | (simp; done) | (simp; omega))))))))
      have hb0 := builder_kept HB.out (show Kept wr (wr.alloc (.cells #[.string x.key, .string x.sum, .int .i64 x.len, .int .i64 x.at'] 69)).drew from (by repeat (first | exact Below.refl _ _ | assumption | refine Below.drewN ?_ _ | refine Below.drew ?_ | (refine Below.alloc' _ ?_ ?_; (focus ((first | omega | (simp; done) | (simp; omega))))) | (refine Below.setCell' _ ?_ ?_; (focus ((first | omega | (simp; done) | (simp; omega))))))))
      obtain ⟨bs, hbs⟩ : ∃ bs, Lib.byteCells ((hdT seq l.length).data.toList ++ bodyL (l.take k)) = bs := ⟨_, rfl⟩
      have hbsl : bs.length ≤ 2000 := by
        rw [← hbs, Lib.byteCells_length, List.length_append]
        have h1 : (hdT seq l.length).data.toList.length = 9 := by rw [Array.length_toList]; exact hdT_size _ _
        have h2 : (l.take k).length ≤ 7 := by rw [List.length_take]; omega
        omega
      rw [hbs] at hb0
      have HBS := Lib.hid hbs
      clear hbs
      have z1 := le_size 1 x.key.size
      have z2 := le_size 2 x.len
      have z3 := le_size 2 x.at'
      have g1 : ¬ 9223372036854775807 < 1 + x.key.size + 32 := by omega
      have g2 : ¬ 9223372036854775807 < 1 + x.key.size + 32 + 2 := by omega
      have g3 : ¬ 9223372036854775807 < 1 + x.key.size + 32 + 2 + 2 := by omega
      go_wp2_with fail
      go_region_held3 (fun w' => w'.cell? ⟨wr.heap.size, 0, none⟩ = some (.string x.key) ∧ w'.cell? ⟨wr.heap.size, 1, none⟩ = some (.string x.sum) ∧ w'.cell? ⟨wr.heap.size, 2, none⟩ = some (.int .i64 x.len) ∧ w'.cell? ⟨wr.heap.size, 3, none⟩ = some (.int .i64 x.at') ∧ w'.heap[wr.heap.size]? = some (.cells #[.string x.key, .string x.sum, .int .i64 x.len, .int .i64 x.at'] 69 (0, 0)) ∧ Kept w1 w') (first | assumption | exact S4_oth (by assumption) (by assumption) (by assumption) | exact S4_kept (by assumption) (by assumption))
        (first
          | (go_at_call 55; refine (text_ok _ 1 _ (by omega) (by omega) (by omega)).mono ?_; rintro e w' ⟨rfl, hk⟩; have hb := builder_kept (by assumption) hk)
          | (go_at_call 54; refine (put_ok _ 2 _ (by omega) (by omega) (by omega)).mono ?_; rintro e w' ⟨rfl, hk⟩; have hb := builder_kept (by assumption) hk)
          | (go_at_call 53; refine (bws_any w1.heap.size w1.heap.size bs _ _ (by assumption) (by omega) (S4_size (by assumption))).mono ?_; rintro e w' ⟨rfl, hb', hk, ho⟩))
      have hk1' : Kept w1 w' := by (rename_i hS' ; exact hS'.2.2.2.2.2)
      go_wp2
      go_roundw
      case rel =>
        refine ⟨k + 1, by omega, by go_num, .inr ?_, hk1'⟩
        rw [HTK.out, bodyL_snoc, ← List.append_assoc, Lib.byteCells_append, HBS.out]
        rw [strCells_eq] at hb'
        exact hb'
      case measure => simp [intOf]; omega
    · obtain rfl : k = l.length := by omega
      have hfull : l.take l.length = l := List.take_length
      have HBF := Lib.hid (Lib.IsBuilderF.of HB.out)
      obtain ⟨tx, htx⟩ : ∃ tx : List UInt8, (hdT seq l.length).data.toList ++ bodyL l = tx := ⟨_, rfl⟩
      rw [hfull, htx] at HBF
      have htxl : tx.length ≤ 2000 := by
        rw [← htx, List.length_append]
        have h1 : (hdT seq l.length).data.toList.length = 9 := by rw [Array.length_toList]; exact hdT_size _ _
        have h2 := bodyL_le l HE.out
        omega
      have HTX := Lib.hid htx
      clear htx hfull
      go_wp2_with fail
      refine (Tryd.Builder_String_any_f w1.heap.size w1.heap.size tx _ HBF.out hzr).mono ?_
      rintro e w4 ⟨rfl, hb4, hbl4⟩
      have hz4 := hbl4.size
      have HB4 := Lib.hid hb4
      clear hb4
      go_wp2_with fail
      refine (Tryd.Builder_String_any_f w1.heap.size w1.heap.size tx _ HB4.out (by omega)).mono ?_
      rintro e w5 ⟨rfl, _, hbl5⟩
      have hk5 : Kept w1 w5 := Below.trans (Below.trans HKR.out hbl4) hbl5
      have hkw5 : Kept w w5 := Kept.trans HKA.out hk5
      have hsz : (⟨tx.toArray⟩ : ByteArray).size = tx.length := by show tx.toArray.size = _; simp
      have HCS := Lib.hid (sumof_any R ⟨tx.toArray⟩ w5 (HR.out.kept hkw5) (by omega))
      have HK5 := Lib.hid hkw5
      clear hk5 hkw5 hbl4 hbl5
      go_wp2_with fail
      refine HCS.out.mono ?_
      rintro e w6 ⟨rfl, hk6⟩
      have hs32 := sumOf_size R ⟨tx.toArray⟩
      have hg : ¬ 9223372036854775807 < tx.length + 32 := by omega
      go_wp2
      refine bodyPost_ret (v := .tuple #[.string (encB R seq l), .int .i64 0]) (by simp [results, Tryd.results37, go_sem, encB, textL, HTX.out]) rfl ⟨rfl, Kept.trans HK5.out hk6⟩
end Go.Proofs.YtbhokalnkfdekaaDoor
