/- Package fixed. -/
import Derived.Test.YtbhokalnkfdekaaDoorSumd
import Derived.Laws.IdiomStrings
namespace Go.Proofs.YtbhokalnkfdekaaDoor
open Go.RowKit
open Go.Proofs

theorem most_any (k : Nat) (w : World) (hk : 1 ≤ k ∧ k ≤ 7) : Calls Tryd.prog 66 #[.int .i64 k] w fun e w' => e = .returned (.int .i64 (2 ^ (8 * k) - 1)) ∧ w' = w := by
  obtain rfl | rfl | rfl | rfl | rfl | rfl | rfl : k = 1 ∨ k = 2 ∨ k = 3 ∨ k = 4 ∨ k = 5 ∨ k = 6 ∨ k = 7 := by omega
  all_goals
    go_enter Tryd.func66, Tryd.ntmps66
    go_wp2
    go_ret
    exact ⟨rfl, rfl⟩

/-- a number's bytes, the low ones first -/
def leL (k : Nat) (n : Int) : List UInt8 := (List.range k).map fun i => b8 (n / 2 ^ (8 * i))
def le (k : Nat) (n : Int) : ByteArray := ⟨(leL k n).toArray⟩
def putA (n : Int) (k j : Nat) : Array Value := ((leL j n).map (fun b => Value.int .u8 (b.toNat : Int)) ++ List.replicate (k - j) (Value.int .u8 0)).toArray
theorem leL_length (k : Nat) (n : Int) : (leL k n).length = k := by simp [leL]
theorem le_size (k : Nat) (n : Int) : (le k n).size = k := by
  show (leL k n).toArray.size = k
  simp [leL_length]

theorem u8_rep (n : Nat) : madeCells (Value.int .u8 0).cells (n * 1) = Array.replicate n (Value.int .u8 0) := by
  apply Array.ext'
  simp only [madeCells, Value.cells, Nat.mul_one]
  apply List.ext_getElem
  · simp
  · intro i h1 h2; simp [Nat.mod_one]

theorem leL_succ (k : Nat) (n : Int) : leL (k + 1) n = leL k n ++ [b8 (n / 2 ^ (8 * k))] := by simp [leL, List.range_succ]

theorem putA_get (n : Int) (k j : Nat) (h : j < k) : (putA n k j)[j]? = some (.int .u8 0) := by
  obtain ⟨m, hm⟩ : ∃ m, k - j = m + 1 := ⟨k - j - 1, by omega⟩
  simp [putA, leL_length, hm, List.replicate_succ, List.getElem?_append_right]

theorem putA_set (n : Int) (k j : Nat) (h : j < k) : (putA n k j).setIfInBounds j (.int .u8 (n / 2 ^ (8 * j) % 256)) = putA n k (j + 1) := by
  obtain ⟨m, hm⟩ : ∃ m, k - j = m + 1 := ⟨k - j - 1, by omega⟩
  have hm' : k - (j + 1) = m := by omega
  simp only [putA, hm, hm', leL_succ, List.setIfInBounds_toArray, List.replicate_succ, List.map_append, List.map_cons, List.map_nil, b8_nat]
  rw [List.set_append_right _ _ (by simp [leL_length])]
  simp [leL_length]

theorem putA_all (n : Int) (k : Nat) : putA n k k = ((leL k n).map fun b => Value.int .u8 (b.toNat : Int)).toArray := by simp [putA]

set_option maxRecDepth 100000 in
set_option maxHeartbeats 2000000 in
theorem put_ok (n : Int) (k : Nat) (w : World) (hk : 1 ≤ k ∧ k ≤ 7) (hn : 0 ≤ n) (hm : n ≤ 2 ^ (8 * k) - 1) :
    Calls Tryd.prog 54 #[.int .i64 n, .int .i64 k] w fun e w' => e = .returned (.string (le k n)) ∧ Kept w w' := by
  have hn0 : ¬ n < 0 := by omega
  have hm0 : ¬ (2 : Int) ^ (8 * k) - 1 < n := by omega
  have HC := Lib.hid (most_any k w hk)
  go_enter Tryd.func54, Tryd.ntmps54
  go_wp2_with fail
  refine HC.out.mono ?_
  rintro e w1 ⟨rfl, rfl⟩
  clear HC
  obtain ⟨i0, hi, hz0, hz1, hz2⟩ := info_parts b_byte
  have hmk : ∀ W, (Instr.makeSlice 104 (.int .i64 k) (.int .i64 k)).run Tryd.prog W = .ok (.slice (some ⟨W.heap.size, 0, none⟩) k k) (W.alloc (.cells (Array.replicate k (Value.int .u8 0)) 5)) := by
    intro W
    have := run_make (P := Tryd.prog) W 104 5 i0 (.int .u8 0) Tryd.underlying104 hi hz0 .i64 .i64 k k (by omega) (Int.le_refl _) (by rw [hz2]; omega) (by omega)
    rw [this, hz1, Int.toNat_natCast, u8_rep]
  go_wp2
  obtain ⟨W0, hW0⟩ : ∃ W0, w1.alloc (.cells (Array.replicate k (Value.int .u8 0)) 5) = W0 := ⟨_, rfl⟩
  have hz0' : W0.heap.size = w1.heap.size + 1 := by rw [← hW0]; simp
  have hg0 : W0.heap[w1.heap.size]? = some (.cells (putA n k 0) 5) := by rw [← hW0, heap_alloc_new']; simp [putA, leL]
  have hk0 : Kept w1 W0 := by rw [← hW0]; exact (by repeat (first | exact Below.refl _ _ | assumption | refine Below.drewN ?_ _ | refine Below.drew ?_ | (refine Below.alloc' _ ?_ ?_; (focus ((first | omega | (simp; done) | (simp; omega))))) | (refine Below.setCell' _ ?_ ?_; (focus ((first | omega | (simp; done) | (simp; omega)))))))
  rw [hW0]
  have HG0 := Lib.hid hg0
  have HK0 := Lib.hid hk0
  clear hW0 hg0 hk0 hmk hi hz1 hz2
  go_wp2
  go_loopw [18] (fun i wr => ∃ j : Nat, j ≤ k ∧ i = .int .i64 j ∧ wr.heap[w1.heap.size]? = some (.cells (putA n k j) 5) ∧ Kept w1 wr) (fun i _ => (k - intOf i).toNat)
  case atStart => exact ⟨0, by omega, rfl, HG0.out, HK0.out⟩
  case round =>
    obtain ⟨j, hj, rfl, hg, hkr⟩ := hrel
    have HG := Lib.hid hg
    have HK := Lib.hid hkr
    have hsz := hkr.size
    have hlt := lt_blk hg
    clear hkr
    by_cases hjk : (j : Int) < k
    · have hjk' : j < k := by omega
      have cj : wr.cell? ⟨w1.heap.size, j, none⟩ = some (.int .u8 0) := by rw [cell_blk hg]; exact putA_get n k j hjk'
      have fj : wr.frozen? ⟨w1.heap.size, j, none⟩ = false := frozen_blk hg
      clear hg
      go_wp2
      go_roundw
      case rel =>
        have := HK.out
        refine ⟨j + 1, by omega, by go_num, ?_, (by repeat (first | exact Below.refl _ _ | assumption | refine Below.drewN ?_ _ | refine Below.drew ?_ | (refine Below.alloc' _ ?_ ?_; (focus ((first | omega | (simp; done) | (simp; omega))))) | (refine Below.setCell' _ ?_ ?_; (focus ((first | omega | (simp; done) | (simp; omega)))))))⟩
        rw [heap_set_eq _ _ _ _ HG.out, putA_set n k j hjk']
      case measure => simp [intOf]; omega
    · obtain rfl : j = k := by omega
      go_wp2
      rw [bytes_text _ w1.heap.size j (leL j n) j (leL_length j n).symm _ hg (putA_all n j)]
      simp only [Result.andThen]
      rw [Oper.upon_value]
      go_wp2
      refine bodyPost_ret (v := .string (le j n)) (by simp [results, Tryd.results54, go_sem, le]) rfl ⟨rfl, HK.out⟩

theorem text_ok (s : ByteArray) (k : Nat) (w : World) (hk : 1 ≤ k ∧ k ≤ 7) (hm : (s.size : Int) ≤ 2 ^ (8 * k) - 1) (hs : s.size ≤ 1000000) :
    Calls Tryd.prog 55 #[.string s, .int .i64 k] w fun e w' => e = .returned (.string (le k s.size ++ s)) ∧ Kept w w' := by
  have hm0 : ¬ (2 : Int) ^ (8 * k) - 1 < s.size := by omega
  have HC := Lib.hid (most_any k w hk)
  have HP := Lib.hid (put_ok s.size k w hk (by omega) hm)
  have hle := le_size k s.size
  go_enter Tryd.func55, Tryd.ntmps55
  go_wp2_with fail
  refine HC.out.mono ?_
  rintro e w1 ⟨rfl, rfl⟩
  clear HC
  go_wp2_with fail
  refine HP.out.mono ?_
  rintro e w2 ⟨rfl, hk2⟩
  have hd : ¬ 9223372036854775807 < k + s.size := by omega
  go_wp2
  refine bodyPost_ret (v := .string (le k s.size ++ s)) (by simp [results, Tryd.results55, go_sem]) rfl ⟨rfl, hk2⟩

/-- a reader in memory: what is left, and its error -/
def rdCells (s : ByteArray) (e : Int) : Array Value := #[.string s, .int .i64 e]

theorem read_any (s : ByteArray) (w : World) : Calls Tryd.prog 47 #[.string s] w fun e w' => e = .returned (.pointer (some ⟨w.heap.size, 0, none⟩)) ∧ w'.heap[w.heap.size]? = some (.cells (rdCells s 0) 127) ∧ Kept w w' := by
  go_enter Tryd.func47, Tryd.ntmps47
  go_wp2
  go_ret
  exact ⟨rfl, heap_alloc_new' _ _, (by repeat (first | exact Below.refl _ _ | assumption | refine Below.drewN ?_ _ | refine Below.drew ?_ | (refine Below.alloc' _ ?_ ?_; (focus ((first | omega | (simp; done) | (simp; omega))))) | (refine Below.setCell' _ ?_ ?_; (focus ((first | omega | (simp; done) | (simp; omega)))))))⟩

theorem take_ok (s : ByteArray) (n : Nat) (g : Nat) (w : World) (hg : w.heap[g]? = some (.cells (rdCells s 0) 127)) (hn : n ≤ s.size) :
    Calls Tryd.prog 65 #[.pointer (some ⟨g, 0, none⟩), .int .i64 n, .int .i64 0] w fun e w' => e = .returned (.string (s.extract 0 n)) ∧
      w'.heap[g]? = some (.cells (rdCells (s.extract n s.size) 0) 127) ∧ Upd [g] w [g] w' := by
  have c0 : w.cell? ⟨g, 0, none⟩ = some (.string s) := by rw [cell_blk hg]; rfl
  have c1 : w.cell? ⟨g, 1, none⟩ = some (.int .i64 0) := by rw [cell_blk hg]; rfl
  have fz : ∀ o, w.frozen? ⟨g, o, none⟩ = false := fun o => frozen_blk hg
  have HG := Lib.hid hg
  clear hg
  go_enter Tryd.func65, Tryd.ntmps65
  go_wp2
  go_ret
  exact ⟨rfl, by rw [heap_set_eq _ _ _ _ HG.out]; rfl, (Upd.refl _ _).setCell (.inl (by simp)) _⟩

theorem rbytes_ok (s : ByteArray) (n : Nat) (g : Nat) (w : World) (hg : w.heap[g]? = some (.cells (rdCells s 0) 127)) (hn : n ≤ s.size) :
    Calls Tryd.prog 48 #[.pointer (some ⟨g, 0, none⟩), .int .i64 n] w fun e w' => e = .returned (.string (s.extract 0 n)) ∧
      w'.heap[g]? = some (.cells (rdCells (s.extract n s.size) 0) 127) ∧ Upd [g] w [g] w' := by
  have HC := Lib.hid (take_ok s n g w hg hn)
  clear hg
  go_enter Tryd.func48, Tryd.ntmps48
  go_wp2_with fail
  refine HC.out.mono ?_
  rintro e w1 ⟨rfl, h1, h2⟩
  go_wp2
  go_ret
  exact ⟨rfl, h1, h2⟩

/-- End, of a reader that has taken all -/
theorem rend_ok (g : Nat) (w : World) (hg : w.heap[g]? = some (.cells (rdCells ⟨#[]⟩ 0) 127)) :
    Calls Tryd.prog 51 #[.pointer (some ⟨g, 0, none⟩)] w fun e w' => e = .returned (.int .i64 0) ∧ w' = w := by
  have c0 : w.cell? ⟨g, 0, none⟩ = some (.string ⟨#[]⟩) := by rw [cell_blk hg]; rfl
  have c1 : w.cell? ⟨g, 1, none⟩ = some (.int .i64 0) := by rw [cell_blk hg]; rfl
  clear hg
  go_enter Tryd.func51, Tryd.ntmps51
  go_wp2
  go_ret
  exact ⟨rfl, rfl⟩

def numL : List UInt8 → Nat
  | [] => 0
  | b :: l => b.toNat + 256 * numL l

def numT (t : ByteArray) : Nat := numL t.data.toList

theorem numL_snoc : ∀ (l : List UInt8) (b : UInt8), numL (l ++ [b]) = numL l + b.toNat * 2 ^ (8 * l.length)
  | [], b => by simp [numL]
  | c :: l, b => by
    simp only [List.cons_append, numL, numL_snoc l b, List.length_cons]
    rw [show 8 * (l.length + 1) = 8 * l.length + 8 by omega, Nat.pow_add, Nat.mul_add, ← Nat.mul_assoc]
    have : b.toNat * (2 ^ (8 * l.length) * 2 ^ 8) = 256 * b.toNat * 2 ^ (8 * l.length) := by
      rw [Nat.mul_comm (2 ^ (8 * l.length)) (2 ^ 8), ← Nat.mul_assoc, Nat.mul_comm b.toNat]
    omega

theorem numL_lt : ∀ (l : List UInt8), numL l < 2 ^ (8 * l.length)
  | [] => by simp [numL]
  | b :: l => by
    have h := numL_lt l
    have hb := b.toNat_lt
    simp only [numL, List.length_cons]
    rw [show 8 * (l.length + 1) = 8 * l.length + 8 by omega, Nat.pow_add]
    omega

theorem wrap_i64_small (y : Nat) (h : y < 2 ^ 56) : IntKind.i64.wrap (y : Int) = y := by
  simp [IntKind.wrap, IntKind.bits, IntKind.signed]
  omega

theorem or_i64 (x b j : Nat) (hx : x < 2 ^ (8 * j)) (hb : b < 256) (hj : j ≤ 6) : bits .or .i64 (x : Int) (wrap64 (wrap64 (b : Int) * 2 ^ (8 * j))) = ((x + b * 2 ^ (8 * j) : Nat) : Int) := by
  have hp : 2 ^ (8 * j) ≤ 2 ^ 48 := Nat.pow_le_pow_right (by omega) (by omega)
  have hbm : b * 2 ^ (8 * j) ≤ 255 * 2 ^ (8 * j) := Nat.mul_le_mul_right _ (by omega)
  have hlt : x + b * 2 ^ (8 * j) < 2 ^ 56 := by omega
  have e0 : wrap64 (b : Int) = b := by rw [wrap64]; omega
  have e1 : wrap64 (wrap64 (b : Int) * 2 ^ (8 * j)) = ((b * 2 ^ (8 * j) : Nat) : Int) := by
    rw [e0]
    have : ((b : Int) * 2 ^ (8 * j)) = ((b * 2 ^ (8 * j) : Nat) : Int) := by push_cast; rfl
    rw [this, wrap64]
    omega
  rw [e1]
  have h1 : (BitVec.ofInt 64 (x : Int)).toNat = x := by
    rw [BitVec.ofInt_natCast, BitVec.toNat_ofNat]; exact Nat.mod_eq_of_lt (by omega)
  have h2 : (BitVec.ofInt 64 ((b * 2 ^ (8 * j) : Nat) : Int)).toNat = b * 2 ^ (8 * j) := by
    rw [BitVec.ofInt_natCast, BitVec.toNat_ofNat]; exact Nat.mod_eq_of_lt (by omega)
  have h3 : x ||| b * 2 ^ (8 * j) = x + b * 2 ^ (8 * j) := by
    rw [Nat.or_comm, Nat.mul_comm, ← Nat.two_pow_add_eq_or_of_lt hx, Nat.add_comm]
  show IntKind.i64.wrap ((BitVec.ofInt 64 (x : Int) ||| BitVec.ofInt 64 ((b * 2 ^ (8 * j) : Nat) : Int)).toNat : Int) = _
  rw [BitVec.toNat_or, h1, h2, h3]
  exact wrap_i64_small _ (by omega)

set_option maxRecDepth 100000 in
theorem rnumber_ok (s : ByteArray) (k : Nat) (g : Nat) (w : World) (hg : w.heap[g]? = some (.cells (rdCells s 0) 127)) (hk : 1 ≤ k ∧ k ≤ 7) (hn : k ≤ s.size) :
    Calls Tryd.prog 49 #[.pointer (some ⟨g, 0, none⟩), .int .i64 k] w fun e w' => e = .returned (.int .i64 (numT (s.extract 0 k))) ∧
      w'.heap[g]? = some (.cells (rdCells (s.extract k s.size) 0) 127) ∧ Upd [g] w [g] w' := by
  have hz : (s.extract 0 k).size = k := by simp; omega
  have hm : (0 : Int) ≤ 2 ^ (8 * k) - 1 := by have : (0 : Int) < 2 ^ (8 * k) := Int.pow_pos (by omega); omega
  have hm1 : ¬ (2 : Int) ^ (8 * k) - 1 < 0 := by omega
  have HC := Lib.hid (take_ok s k g w hg hn)
  have HM := Lib.hid (most_any k w hk)
  clear hg
  go_enter Tryd.func49, Tryd.ntmps49
  go_wp2_with fail
  refine HM.out.mono ?_
  rintro e w0 ⟨rfl, rfl⟩
  clear HM
  go_wp2_with fail
  refine HC.out.mono ?_
  rintro e w1 ⟨rfl, h1, h2⟩
  clear HC
  have H1 := Lib.hid h1
  have H2 := Lib.hid h2
  clear h1 h2
  obtain ⟨t, ht⟩ : ∃ t, s.extract 0 k = t := ⟨_, rfl⟩
  rw [ht] at hz
  go_wp2
  have HT := Lib.hid ht
  clear ht
  go_loopw [7, 20] (fun n i wr => ∃ (j : Nat), j ≤ k ∧ i = .int .i64 j ∧ n = .int .i64 (numL (t.data.toList.take j)) ∧ wr = w1) (fun _ i _ => (k - intOf i).toNat)
  case atStart => exact ⟨0, by omega, rfl, rfl, rfl⟩
  case round =>
    obtain ⟨j, hj, rfl, rfl, rfl⟩ := hrel
    by_cases hjk : (j : Int) < k
    · have hjk' : j < k := by omega
      have htl : t.data.toList.length = k := by rw [Array.length_toList]; exact hz
      have hjt : j < t.size := by omega
      have hl : (t.data.toList.take j).length = j := by rw [List.length_take]; omega
      have hor : bits .or .i64 (numL (t.data.toList.take j) : Int) (wrap64 (wrap64 (t[j].toNat : Int) * 2 ^ (8 * j))) = ((numL (t.data.toList.take (j + 1)) : Nat) : Int) := by
        have e : t.data.toList.take (j + 1) = t.data.toList.take j ++ [t[j]] := by
          rw [List.take_add_one, List.getElem?_eq_getElem (by omega)]; rfl
        rw [e, numL_snoc, hl]
        exact or_i64 _ _ j (by have := numL_lt (t.data.toList.take j); rw [hl] at this; exact this) t[j].toNat_lt (by omega)
      go_wp2
      go_roundw
      case rel =>
        exact ⟨j + 1, by omega, by go_num, rfl, trivial⟩
      case measure => simp [intOf]; omega
    · obtain rfl : j = k := by omega
      have htl : t.data.toList.length = j := by rw [Array.length_toList]; exact hz
      have e : t.data.toList.take j = t.data.toList := List.take_of_length_le (by omega)
      rw [e]
      go_wp2
      go_ret
      exact ⟨by rw [HT.out]; rfl, H1.out, H2.out⟩
end Go.Proofs.YtbhokalnkfdekaaDoor
