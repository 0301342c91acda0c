/- Package sum: Sum, Of. -/
import Derived.Test.YtbhokalnkfdekaaDoorSumc
import Derived.Laws.IdiomStrings
namespace Go.Proofs.YtbhokalnkfdekaaDoor
open Go.RowKit
open Go.Proofs

/-- an array's element, by value -/
theorem index_arr (W : World) (t e : TypeId) (n : Nat) (cs : Array Value) (k : Nat) (x : Value) (h : Tryd.prog.underlying t = some (.array n e)) (hsz : ∀ w, (Go.sizeOf e).run Tryd.prog w = .ok 1 w) (hag : ∀ w, (isAgg e).run Tryd.prog w = .ok false w) (hk : k < n) (hx : cs[k]? = some x) :
    (Instr.index t (.agg cs) (.int .i64 k)).run Tryd.prog W = .ok x W := by
  simp [Instr.index, run_underlying h, asIntOf, hk, go_sem, hsz, hag, hx]

def b8 (x : Int) : UInt8 := UInt8.ofNat (x % 256).toNat

theorem b8_nat (x : Int) : ((b8 x).toNat : Int) = x % 256 := by
  unfold b8
  have h : (x % 256).toNat < 256 := by omega
  rw [UInt8.toNat_ofNat_of_lt' (by simpa using h)]
  omega

/-- bytes in a block of their own, as a text -/
theorem bytes_text (W : World) (g cap : Nat) (l : List UInt8) (m : Nat) (hm : m = l.length) (vs : Array Value) (hg : W.heap[g]? = some (.cells vs 5 (0, 0))) (hv : vs = (l.map fun b => Value.int .u8 (b.toNat : Int)).toArray) :
    (convert 104 9 (.slice (some ⟨g, 0, none⟩) m cap)).run Tryd.prog W = .ok (.string ⟨l.toArray⟩) W := by
  subst hm
  refine run_convert_bytes_back W 104 9 5 ⟨g, 0, none⟩ cap l Tryd.underlying104 Tryd.underlying5 Tryd.underlying9 ?_
  intro j hj
  have : Addr.add ⟨g, 0, none⟩ j = ⟨g, j, none⟩ := by simp only [Addr.add]; split <;> simp_all
  rw [this, cell_blk hg, hv]
  simp [hj]

/-- a word's bytes -/
def wordB (x : Int) : List UInt8 := [b8 (x / 2 ^ 24), b8 (x / 2 ^ 16), b8 (x / 2 ^ 8), b8 x]

def wordsB (l : List Int) : List UInt8 := l.flatMap wordB

theorem wordsB_snoc (l : List Int) (x : Int) : wordsB (l ++ [x]) = wordsB l ++ wordB x := by simp [wordsB]

theorem wordsB_length (l : List Int) : (wordsB l).length = 4 * l.length := by
  induction l with
  | nil => rfl
  | cons a l ih =>
    have : wordsB (a :: l) = wordB a ++ wordsB l := rfl
    rw [this, List.length_append, ih]
    simp [wordB]; omega

def lenB (n : Int) : Nat → List UInt8
  | 0 => []
  | k + 1 => lenB n k ++ [b8 (8 * n / 2 ^ (56 - 8 * k))]

def zeros (c : Nat) : ByteArray := ⟨(Lib.repeatL [0] c).toArray⟩

theorem zeros_size (c : Nat) : (zeros c).size = c := by
  have h : ∀ c, (Lib.repeatL ([0] : List UInt8) c).length = c := by
    intro c
    induction c with
    | zero => rfl
    | succ c ih => simp [Lib.repeatL, ih]
  show (Lib.repeatL [0] c).toArray.size = c
  simpa using h c

/-- the tail behind a text of 'm' bytes beyond its blocks, 'n' bytes in all -/
def tail0 (m : Nat) : ByteArray := ⟨#[128]⟩ ++ zeros (((119 : Int) - m) % 64).toNat

def tailAll (m : Nat) (n : Int) : ByteArray := tail0 m ++ ⟨(lenB n 8).toArray⟩

def sumOut (R : List Int) (v : V8) (rest : ByteArray) (n : Int) : ByteArray :=
  ⟨(wordsB (absorb R (rest.size + (tailAll rest.size n).size) v (rest ++ tailAll rest.size n)).1.list).toArray⟩

theorem sumOut_size (R : List Int) (v : V8) (rest : ByteArray) (n : Int) : (sumOut R v rest n).size = 32 := by
  show (wordsB _).toArray.size = 32
  rw [List.size_toArray, wordsB_length]; rfl

theorem repeat_any (c : Nat) (w : World) (hc : c ≤ 64) : Calls Tryd.prog 59 #[.string ⟨#[0]⟩, .int .i64 c] w fun e w' => e = .returned (.string (zeros c)) ∧ Kept w w' :=
  Tryd.strings_Repeat ⟨#[0]⟩ c w (by omega) (by show 1 * c ≤ _; omega)

set_option maxRecDepth 100000 in
set_option maxHeartbeats 4000000 in
theorem sumsum_any (R : List Int) (g : Nat) (v : V8) (rest : ByteArray) (n : Int) (w : World) (hR : Roots w R) (hg0 : g ≠ 0) (hg : w.heap[g]? = some (.cells (wrCells v rest n) 118)) (hn0 : 0 ≤ n) (hn : n ≤ 1000000000) (hr : rest.size < 64) :
    Calls Tryd.prog 40 #[.pointer (some ⟨g, 0, none⟩)] w fun e w' => e = .returned (.string (sumOut R v rest n)) ∧ Kept w w' := by
  have p8 : w.cell? ⟨g, 8, none⟩ = some (.string rest) := by rw [cell_blk hg]; rfl
  have p9 : w.cell? ⟨g, 9, none⟩ = some (.int .i64 n) := by rw [cell_blk hg]; rfl
  have fz : ∀ o, w.frozen? ⟨g, o, none⟩ = false := fun o => frozen_blk hg
  have hglt := lt_blk hg
  have HG := Lib.hid hg
  have HR := Lib.hid hR
  have HG0 := Lib.hid hg0
  clear hg hR hg0
  obtain ⟨c, hc⟩ : ∃ c : Nat, (119 - (rest.size : Int)) % 64 = c := ⟨((119 - (rest.size : Int)) % 64).toNat, by omega⟩
  have hcr : Int.tmod (119 - (rest.size : Int)) 64 = c := by rw [Int.tmod_eq_emod_of_nonneg (by omega)]; exact hc
  have hc64 : c ≤ 64 := by omega
  go_enter Tryd.func40, Tryd.ntmps40
  go_wp2_with fail
  refine (repeat_any c w hc64).mono ?_
  rintro e w1 ⟨rfl, hk1⟩
  have hz1 := hk1.size
  have HK1 := Lib.hid hk1
  have p8 : w1.cell? ⟨g, 8, none⟩ = some (.string rest) := by rw [hk1.cell hglt]; exact p8
  clear hk1
  have hzs := zeros_size c
  have hb1 : (⟨#[128]⟩ : ByteArray).size = 1 := rfl
  go_wp2
  obtain ⟨t0, ht0⟩ : ∃ t0 : ByteArray, ⟨#[128]⟩ ++ zeros c = t0 := ⟨_, rfl⟩
  have ht0z : t0.size = 1 + c := by rw [← ht0]; simp [hzs, hb1]
  rw [ht0]
  have HT0 := Lib.hid ht0
  clear ht0
  go_loopw [3, 4] (fun s i wr => ∃ (k : Nat) (t : ByteArray), k ≤ 8 ∧ i = .int .i64 (56 - 8 * k) ∧ s = .string t ∧ t = t0 ++ ⟨(lenB n k).toArray⟩ ∧ t.size = 1 + c + k ∧ Kept w wr) (fun _ i _ => (intOf i + 8).toNat)
  case atStart => exact ⟨0, t0, by omega, rfl, rfl, by apply ByteArray.ext; simp [lenB], ht0z, HK1.out⟩
  case round =>
    obtain ⟨k, t, hk, rfl, rfl, ht, htz, hkr⟩ := hrel
    have hg := (hkr.heap hglt).trans HG.out
    have q9 : wr.cell? ⟨g, 9, none⟩ = some (.int .i64 n) := by rw [cell_blk hg]; rfl
    have hz := hkr.size
    have HK := Lib.hid hkr
    have HT := Lib.hid ht
    clear hkr hg ht
    by_cases h8 : k < 8
    · have d1 : 8 * (k : Int) ≤ 56 := by omega
      have d2 : ¬ 9223372036854775807 < 1 + c + k + 1 := by omega
      go_wp2
      rw [bytes_text _ wr.heap.size 1 [b8 (8 * n / 2 ^ (56 - 8 * k))] 1 rfl _ (heap_alloc_new' _ _) (by simp [b8_nat])]
      simp only [Result.andThen]
      rw [Oper.upon_value]
      have hb2 : (⟨[b8 (8 * n / 2 ^ (56 - 8 * k))].toArray⟩ : ByteArray).size = 1 := rfl
      obtain ⟨t2, ht2⟩ : ∃ t2, t ++ ⟨[b8 (8 * n / 2 ^ (56 - 8 * k))].toArray⟩ = t2 := ⟨_, rfl⟩
      have ht2z : t2.size = t.size + 1 := by rw [← ht2]; simp [hb2]
      go_wp2
      go_roundw
      case rel =>
        have hkk := HK.out
        refine ⟨k + 1, t2, by omega, by go_num, rfl, ?_, by omega, (by repeat (first | exact Below.refl _ _ | assumption | refine Below.drewN ?_ _ | refine Below.drew ?_ | (refine Below.alloc' _ ?_ ?_; (focus ((first | omega | (simp; done) | (simp; omega))))) | (refine Below.setCell' _ ?_ ?_; (focus ((first | omega | (simp; done) | (simp; omega)))))))⟩
        rw [← ht2, HT.out, lenB]
        apply ByteArray.ext
        simp
      case measure => simp [intOf]; omega
    · have d1 : ¬ 8 * (k : Int) ≤ 56 := by omega
      obtain rfl : k = 8 := by omega
      have hg := (HK.out.heap hglt).trans HG.out
      obtain ⟨p0, p1, p2, p3, p4, p5, p6, p7, p8, p9, fz⟩ := wr_cells hg
      clear hg
      have hRr : Roots wr R := HR.out.heap (HK.out.heap HR.out.lt)
      have HRr := Lib.hid hRr
      clear hRr
      obtain ⟨W, hW⟩ : ∃ W, wr.alloc (.cells #[.int .u32 v.v0, .int .u32 v.v1, .int .u32 v.v2, .int .u32 v.v3, .int .u32 v.v4, .int .u32 v.v5, .int .u32 v.v6, .int .u32 v.v7, .string rest, .int .i64 n] 118) = W := ⟨_, rfl⟩
      have hgW : W.heap[wr.heap.size]? = some (.cells (wrCells v rest n) 118) := by rw [← hW]; exact heap_alloc_new' _ _
      have hzW : W.heap.size = wr.heap.size + 1 := by rw [← hW]; simp
      have hkW : Kept wr W := by rw [← hW]; exact (by repeat (first | exact Below.refl _ _ | assumption | refine Below.drewN ?_ _ | refine Below.drew ?_ | (refine Below.alloc' _ ?_ ?_; (focus ((first | omega | (simp; done) | (simp; omega))))) | (refine Below.setCell' _ ?_ ?_; (focus ((first | omega | (simp; done) | (simp; omega)))))))
      have HC := Lib.hid (sumwrite_any R wr.heap.size v rest t n W (HRr.out.kept hkW) (by have := HRr.out.lt; omega) hgW hn0 hn (by omega) (by omega))
      have HKW := Lib.hid hkW
      clear hkW hgW
      have HW := Lib.hid hW
      clear hW
      go_wp2_with fail
      rw [HW.out]
      refine HC.out.mono ?_
      rintro e w2 ⟨rfl, hg2, hu2⟩
      clear HC
      obtain ⟨y, hy⟩ : ∃ y, absorb R (rest.size + t.size) v (rest ++ t) = y := ⟨_, rfl⟩
      rw [hy] at hg2
      obtain ⟨q0, q1, q2, q3, q4, q5, q6, q7, q8, q9, qz⟩ := wr_cells hg2
      have hz2 := hu2.size
      have hlt2 : wr.heap.size < w2.heap.size := lt_blk hg2
      have HU2 := Lib.hid hu2
      have HY := Lib.hid hy
      clear hg2 hu2 hy
      go_wp2
      have hb0 := builder_new w2 106 5
      have HB0 := Lib.hid hb0
      have a1 := HK.out
      have a2 : Kept w W := Below.trans a1 (Below.mono HKW.out a1.size)
      have a3 : Kept w w2 := Below.trans a2 (HU2.out.below (by omega) (by simp; omega))
      have HKA := Lib.hid a3
      clear a1 a2 a3
      clear hb0
      go_loopw [44] (fun i W' => ∃ k : Nat, k ≤ 8 ∧ i = .int .i64 k ∧ Lib.IsBuilder 106 5 w2.heap.size w2.heap.size (Lib.byteCells (wordsB (y.1.list.take k))) W' ∧ Kept w2 W') (fun i _ => (8 - intOf i).toNat)
      case atStart => exact ⟨0, by omega, rfl, HB0.out, (by repeat (first | exact Below.refl _ _ | assumption | refine Below.drewN ?_ _ | refine Below.drew ?_ | (refine Below.alloc' _ ?_ ?_; (focus ((first | omega | (simp; done) | (simp; omega))))) | (refine Below.setCell' _ ?_ ?_; (focus ((first | omega | (simp; done) | (simp; omega)))))))⟩
      case round =>
        obtain ⟨k, hk, rfl, hb, hk3⟩ := hrel
        have HB := Lib.hid hb
        have HK3 := Lib.hid hk3
        clear hb hk3
        by_cases h8 : (k : Int) < 8
        · go_wp2
          have hk8 : k < 8 := by omega
          have hlen : y.1.list.length = 8 := rfl
          obtain ⟨x, hx⟩ : ∃ x, y.1.list[k]? = some x := ⟨_, List.getElem?_eq_getElem (by omega)⟩
          have hxc : y.1.cells[k]? = some (.int .u32 x) := by rw [V8.cells_eq]; simp [arrI, hx]
          simp only [V8.cells] at hxc
          rw [index_arr wr _ 113 8 _ k _ Tryd.underlying115 Tryd.sizeOf113 Tryd.isAgg113 hk8 hxc]
          simp only [Result.andThen]
          rw [Oper.upon_value]
          clear hxc
          have hlk : (Lib.byteCells (wordsB (y.1.list.take k))).length = 4 * k := by
            rw [Lib.byteCells_length, wordsB_length, List.length_take]; omega
          have hw4 : y.1.list.take (k + 1) = y.1.list.take k ++ [x] := by rw [List.take_add_one, hx]; rfl
          have HX := Lib.hid hx
          have HW4 := Lib.hid hw4
          clear hx hw4
          have hk2 := HK3.out.size
          go_wp2_with fail
          refine (bwrite_any w2.heap.size w2.heap.size wr.heap.size 4 4 _ (Lib.byteCells (wordB x)) _ (builder_kept HB.out (by exact (by repeat (first | exact Below.refl _ _ | assumption | refine Below.drewN ?_ _ | refine Below.drew ?_ | (refine Below.alloc' _ ?_ ?_; (focus ((first | omega | (simp; done) | (simp; omega))))) | (refine Below.setCell' _ ?_ ?_; (focus ((first | omega | (simp; done) | (simp; omega))))))))) ?_ rfl (by simp [Lib.byteCells, wordB, Value.oneCell']) (by omega) (by simp; omega)).mono ?_
          · rw [heap_alloc_new']; simp [Lib.byteCells, wordB, b8_nat]
          rintro e w4 ⟨rfl, hb4, hbel4⟩
          have HB4 := Lib.hid hb4
          have hk4 : Kept w2 w4 := Below.trans (by have := HK3.out; exact (by repeat (first | exact Below.refl _ _ | assumption | refine Below.drewN ?_ _ | refine Below.drew ?_ | (refine Below.alloc' _ ?_ ?_; (focus ((first | omega | (simp; done) | (simp; omega))))) | (refine Below.setCell' _ ?_ ?_; (focus ((first | omega | (simp; done) | (simp; omega)))))))) hbel4
          have HK4 := Lib.hid hk4
          clear hb4 hk4 hbel4
          go_wp2
          go_roundw
          case rel =>
            refine ⟨k + 1, by omega, by go_num, ?_, HK4.out⟩
            rw [HW4.out]
            have := HB4.out
            rw [← Lib.byteCells_append, ← wordsB_snoc] at this
            exact .inr this
          case measure => simp [intOf]; omega
        · obtain rfl : k = 8 := by omega
          have h8l : y.1.list.take 8 = y.1.list := rfl
          go_wp2_with fail
          refine (Tryd.Builder_String_any w2.heap.size w2.heap.size (wordsB y.1.list) _ HB.out HK3.out.size).mono ?_
          rintro e w5 ⟨rfl, hbel5⟩
          go_wp2
          refine bodyPost_ret (v := .string ⟨(wordsB y.1.list).toArray⟩) (by simp [results, Tryd.results40, go_sem]) rfl ⟨?_, ?_⟩
          · have ht : t = tailAll rest.size n := by rw [HT.out, ← HT0.out, tailAll, tail0, hc]; simp
            rw [sumOut, ← ht, HY.out]
          · exact Below.trans (Below.trans HKA.out (Below.mono HK3.out HKA.out.size)) (Below.mono hbel5 HKA.out.size)

theorem absorb_rest (R : List Int) : ∀ (k : Nat) (v : V8) (s : ByteArray), s.size ≤ k → (absorb R k v s).2.size < 64 := by
  intro k
  induction k with
  | zero => intro v s h; simp only [absorb]; omega
  | succ k ih =>
    intro v s h
    simp only [absorb]
    split
    · exact ih _ _ (by simp; omega)
    · show s.size < 64
      omega

/-- the digest -/
def sumOf (R : List Int) (s : ByteArray) : ByteArray :=
  sumOut R (absorb R (0 + s.size) V8.iv (⟨#[]⟩ ++ s)).1 (absorb R (0 + s.size) V8.iv (⟨#[]⟩ ++ s)).2 (0 + s.size)

theorem sumOf_size (R : List Int) (s : ByteArray) : (sumOf R s).size = 32 := sumOut_size _ _ _ _

set_option maxRecDepth 100000 in
theorem sumof_any (R : List Int) (s : ByteArray) (w : World) (hR : Roots w R) (hs : s.size ≤ 1000000) :
    Calls Tryd.prog 23 #[.string s] w fun e w' => e = .returned (.string (sumOf R s)) ∧ Kept w w' := by
  have HR := Lib.hid hR
  clear hR
  go_enter Tryd.func23, Tryd.ntmps23
  go_wp2_with fail
  refine (sumnew_any _).mono ?_
  rintro e w1 ⟨g, rfl, hg, hgb, hk⟩
  have hR1 := HR.out.kept hk
  have hn : g ≠ 0 := by have := HR.out.lt; omega
  have HC := Lib.hid (sumwrite_any R g V8.iv ⟨#[]⟩ s 0 w1 hR1 hn hgb (by omega) (by omega) (by omega) (by show 0 ≤ _; omega))
  have HK := Lib.hid hk
  have HR1 := Lib.hid hR1
  clear hR1 hgb hk
  go_wp2_with fail
  refine HC.out.mono ?_
  rintro e w2 ⟨rfl, hg2, hu⟩
  have hr64 : (absorb R (0 + s.size) V8.iv (⟨#[]⟩ ++ s)).2.size < 64 := absorb_rest R _ _ _ (by rw [ByteArray.size_append]; exact Nat.le_refl _)
  have HC2 := Lib.hid (sumsum_any R g _ _ _ w2 (HR1.out.heap (hu.heap HR1.out.lt (by simpa using fun e => hn e.symm))) hn hg2 (by omega) (by omega) hr64)
  have HU := Lib.hid hu
  clear HC hg2 hu
  go_wp2_with fail
  refine HC2.out.mono ?_
  rintro e w3 ⟨rfl, hk3⟩
  go_wp2
  refine bodyPost_ret (v := .string (sumOf R s)) (by simp [results, Tryd.results23, go_sem, sumOf]) rfl ⟨rfl, ?_⟩
  have a2 : Kept w w2 := Below.trans HK.out (HU.out.below HK.out.size (by simp; omega))
  exact Below.trans a2 (Below.mono hk3 a2.size)
end Go.Proofs.YtbhokalnkfdekaaDoor
