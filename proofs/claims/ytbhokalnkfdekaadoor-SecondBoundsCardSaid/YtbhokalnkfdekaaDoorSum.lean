/- Package sum: the words behind a block. -/
import Derived.Test.YtbhokalnkfdekaaDoorMem
import Derived.Lib.Hide
import Derived.LoopTactic
import Derived.Deep.RegionLaw
import Derived.Laws.BitsLemmas
namespace Go.Proofs.YtbhokalnkfdekaaDoor
open Go.RowKit

def rot (x : Int) (n : Nat) : Int := Go.bits .or .u32 (x / 2 ^ n) (x * 2 ^ (32 - n) % 4294967296)

theorem right_any (x n : Int) (w : World) (h0 : 0 < n) (h : n < 32) :
    Calls Tryd.prog 71 #[.int .u32 x, .int .i64 n] w fun e w' => e = .returned (.int .u32 (rot x n.toNat)) ∧ ∃ k, w' = w.drewN k := by
  obtain ⟨n, rfl⟩ := Int.eq_ofNat_of_zero_le (Int.le_of_lt h0)
  have e1 : min n 32 = n := by omega
  have e2 : min (32 - n) 32 = 32 - n := by omega
  have e3 : ((32 : Int) - (n : Int)).toNat = 32 - n := by omega
  go_enter Tryd.func71, Tryd.ntmps71
  go_wp2
  go_quiet (fail)
  go_wp2
  go_ret
  refine ⟨?_, _, rfl⟩
  simp [rot]

/-- the words of a list -/
def arrI (l : List Int) : Array Value := (l.map (Value.int .u32)).toArray
def byteAt (s : ByteArray) (i : Nat) : Int := ((s.data.toList.getD i 0).toNat : Int) % 4294967296
theorem byteAt_eq (s : ByteArray) (i : Nat) (h : i < s.size) : byteAt s i = (s[i].toNat : Int) % 4294967296 := by
  have h' : i < s.data.size := h
  have : s.data.toList.getD i 0 = s[i] := by
    simp only [List.getD, Array.getElem?_toList, Array.getElem?_eq_getElem h', Option.getD_some]; rfl
  rw [byteAt, this]
/-- a word of four bytes, the first so many of them -/
def pw (s : ByteArray) (t : Nat) : Nat → Int
  | 0 => 0
  | i + 1 => Go.bits .or .u32 (pw s t i * 256 % 4294967296) (byteAt s (4 * t + i))
def mix (l : List Int) (t : Nat) : Int :=
  let x := l.getD (t - 15) 0
  let y := l.getD (t - 2) 0
  let s0 := Go.bits .xor .u32 (Go.bits .xor .u32 (rot x 7) (rot x 18)) (x / 8)
  let s1 := Go.bits .xor .u32 (Go.bits .xor .u32 (rot y 17) (rot y 19)) (y / 1024)
  (s1 + l.getD (t - 7) 0 + s0 + l.getD (t - 16) 0) % 4294967296
def sched (s : ByteArray) : Nat → List Int
  | 0 => []
  | t + 1 => sched s t ++ [if t < 16 then pw s t 4 else mix (sched s t) t]
theorem sched_len (s : ByteArray) (t : Nat) : (sched s t).length = t := by
  induction t with
  | zero => rfl
  | succ t ih => simp [sched, ih]

/-- the array w behind t words -/
def wArr (s : ByteArray) (t : Nat) : List Int := sched s t ++ List.replicate (64 - t) 0
theorem wArr_len (s : ByteArray) (t : Nat) (ht : t ≤ 64) : (wArr s t).length = 64 := by simp [wArr, sched_len]; omega
theorem arrI_get (l : List Int) (i : Nat) (h : i < l.length) : (arrI l)[i]? = some (.int .u32 (l.getD i 0)) := by simp [arrI, List.getD, h]
theorem arrI_set (l : List Int) (i : Nat) (x : Int) : (arrI l).setIfInBounds i (.int .u32 x) = arrI (l.set i x) := by simp [arrI, List.map_set]
theorem wArr_old (s : ByteArray) (t i : Nat) (h : i < t) : (wArr s t).getD i 0 = (sched s t).getD i 0 := by
  simp [wArr, List.getD, List.getElem?_append_left, sched_len, h]
theorem wArr_step (s : ByteArray) (t : Nat) (ht : t < 64) : (wArr s t).set t (if t < 16 then pw s t 4 else mix (sched s t) t) = wArr s (t + 1) := by
  unfold wArr
  rw [List.set_append_right _ _ (by rw [sched_len]; exact Nat.le_refl _), sched_len, Nat.sub_self, show 64 - t = (64 - (t + 1)) + 1 by omega, List.replicate_succ, List.set_cons_zero]
  simp [sched]

/-- the roots' table, in memory -/
def Roots (w : World) (R : List Int) : Prop := ∀ i, i < 64 → w.cell? ⟨0, i, none⟩ = some (.int .u32 (R.getD i 0))
theorem Roots.lt {w : World} {R : List Int} (h : Roots w R) : 0 < w.heap.size := World.block_lt_of_cell? w _ (h 0 (by omega))
theorem Roots.heap {w w' : World} {R : List Int} (h : Roots w R) (he : w'.heap[0]? = w.heap[0]?) : Roots w' R := fun i hi => (World.cell?_of_block (a := ⟨0, i, none⟩) he).trans (h i hi)
theorem Roots.kept {w w' : World} {R : List Int} (h : Roots w R) (hk : Kept w w') : Roots w' R := h.heap (hk.heap h.lt)

structure V8 where
  v0 : Int
  v1 : Int
  v2 : Int
  v3 : Int
  v4 : Int
  v5 : Int
  v6 : Int
  v7 : Int
def V8.cells (v : V8) : Array Value := #[.int .u32 v.v0, .int .u32 v.v1, .int .u32 v.v2, .int .u32 v.v3, .int .u32 v.v4, .int .u32 v.v5, .int .u32 v.v6, .int .u32 v.v7]

def rnd1 (v : V8) (r wt : Int) : Int := (v.v7 + Go.bits .xor .u32 (Go.bits .xor .u32 (rot v.v4 6) (rot v.v4 11)) (rot v.v4 25) + Go.bits .xor .u32 (Go.bits .and .u32 v.v4 v.v5) (Go.bits .and .u32 (Go.bits .xor .u32 IntKind.u32.max v.v4) v.v6) + r + wt)
def rnd2 (v : V8) : Int := (Go.bits .xor .u32 (Go.bits .xor .u32 (rot v.v0 2) (rot v.v0 13)) (rot v.v0 22) + Go.bits .xor .u32 (Go.bits .xor .u32 (Go.bits .and .u32 v.v0 v.v1) (Go.bits .and .u32 v.v0 v.v2)) (Go.bits .and .u32 v.v1 v.v2))
/-- one round -/
def rnd (v : V8) (r wt : Int) : V8 := ⟨(rnd1 v r wt + rnd2 v) % 4294967296, v.v0, v.v1, v.v2, (v.v3 + rnd1 v r wt) % 4294967296, v.v4, v.v5, v.v6⟩
def rounds (R : List Int) (l : List Int) (v : V8) : Nat → V8
  | 0 => v
  | t + 1 => rnd (rounds R l v t) (R.getD t 0) (l.getD t 0)

/-- eight cells of a block written, one behind the other -/
theorem set8 (W : World) (b : Nat) (x0 x1 x2 x3 x4 x5 x6 x7 : Value) {y0 y1 y2 y3 y4 y5 y6 y7 : Value} {t : TypeId} {f : Nat × Nat} (h : W.heap[b]? = some (.cells #[y0, y1, y2, y3, y4, y5, y6, y7] t f)) :
    ((((((((W.setCell ⟨b, 0, none⟩ x0).setCell ⟨b, 1, none⟩ x1).setCell ⟨b, 2, none⟩ x2).setCell ⟨b, 3, none⟩ x3).setCell ⟨b, 4, none⟩ x4).setCell ⟨b, 5, none⟩ x5).setCell ⟨b, 6, none⟩ x6).setCell ⟨b, 7, none⟩ x7).heap[b]? = some (.cells #[x0, x1, x2, x3, x4, x5, x6, x7] t f) ∧
    Below b W ((((((((W.setCell ⟨b, 0, none⟩ x0).setCell ⟨b, 1, none⟩ x1).setCell ⟨b, 2, none⟩ x2).setCell ⟨b, 3, none⟩ x3).setCell ⟨b, 4, none⟩ x4).setCell ⟨b, 5, none⟩ x5).setCell ⟨b, 6, none⟩ x6).setCell ⟨b, 7, none⟩ x7) := by
  have e0 := heap_set_eq W b 0 x0 h
  have e1 := heap_set_eq _ b 1 x1 e0
  have e2 := heap_set_eq _ b 2 x2 e1
  have e3 := heap_set_eq _ b 3 x3 e2
  have e4 := heap_set_eq _ b 4 x4 e3
  have e5 := heap_set_eq _ b 5 x5 e4
  have e6 := heap_set_eq _ b 6 x6 e5
  have e7 := heap_set_eq _ b 7 x7 e6
  refine ⟨by simpa using e7, ?_⟩
  exact (((((((((Below.refl b W).setCell (Nat.le_refl b) x0).setCell (p := ⟨b, 1, none⟩) (Nat.le_refl b) x1).setCell (p := ⟨b, 2, none⟩) (Nat.le_refl b) x2).setCell (p := ⟨b, 3, none⟩) (Nat.le_refl b) x3).setCell (p := ⟨b, 4, none⟩) (Nat.le_refl b) x4).setCell (p := ⟨b, 5, none⟩) (Nat.le_refl b) x5).setCell (p := ⟨b, 6, none⟩) (Nat.le_refl b) x6).setCell (p := ⟨b, 7, none⟩) (Nat.le_refl b) x7)

def V8.list (v : V8) : List Int := [v.v0, v.v1, v.v2, v.v3, v.v4, v.v5, v.v6, v.v7]
theorem V8.cells_eq (v : V8) : v.cells = arrI v.list := rfl
def added (h v : List Int) (k : Nat) : List Int := h.mapIdx fun i x => if i < k then (x + v.getD i 0) % 4294967296 else x
theorem added_zero (h v : List Int) : added h v 0 = h := by
  apply List.ext_getElem
  · simp [added]
  · intro i h1 h2; simp [added]
theorem added_step (h v : List Int) (k : Nat) (hk : k < h.length) : (added h v k).set k ((h.getD k 0 + v.getD k 0) % 4294967296) = added h v (k + 1) := by
  apply List.ext_getElem
  · simp [added]
  · intro i h1 h2
    simp only [added, List.getElem_set, List.getElem_mapIdx]
    by_cases e : k = i
    · subst e; simp [List.getD, hk]
    · rw [if_neg e]
      by_cases hlt : i < k
      · rw [if_pos hlt, if_pos (by omega)]
      · rw [if_neg hlt, if_neg (by omega)]
theorem added_get (h v : List Int) (k : Nat) (hk : k < h.length) : (added h v k).getD k 0 = h.getD k 0 := by
  simp [added, List.getD, hk]
def V8.add (a b : V8) : V8 := ⟨(a.v0 + b.v0) % 4294967296, (a.v1 + b.v1) % 4294967296, (a.v2 + b.v2) % 4294967296, (a.v3 + b.v3) % 4294967296, (a.v4 + b.v4) % 4294967296, (a.v5 + b.v5) % 4294967296, (a.v6 + b.v6) % 4294967296, (a.v7 + b.v7) % 4294967296⟩
theorem added_all (a b : V8) : added a.list b.list 8 = (a.add b).list := by simp [added, V8.list, V8.add, List.mapIdx, List.mapIdx.go]
/-- the words behind a block more -/
def behindV (R : List Int) (v : V8) (s : ByteArray) : V8 := v.add (rounds R (wArr s 64) v 64)

theorem quiet_add {P : Program} {f : FuncId} {args : Array Value} {w : World} {a n : Nat} {v : Value}
    (h : Calls P f args (w.drewN (a + n)) fun e w' => e = .returned v ∧ ∃ m, w' = (w.drewN (a + n)).drewN m) :
    Calls P f args (w.drewN (a + n)) fun e w'' => e = .returned v ∧ ∃ m, w'' = w.drewN (a + m) :=
  h.mono fun _ _ ⟨he, m, hm⟩ => ⟨he, n + m, by rw [hm, World.drewN_drewN, Nat.add_assoc]⟩

set_option maxRecDepth 100000 in
set_option maxHeartbeats 4000000 in
theorem behind_any (R : List Int) (v : V8) (s : ByteArray) (hs : s.size = 64) (w : World) (hR : Roots w R) :
    Calls Tryd.prog 58 #[.agg v.cells, .string s] w fun e w' => e = .returned (.agg (behindV R v s).cells) ∧ Kept w w' := by
  obtain ⟨a0, a1, a2, a3, a4, a5, a6, a7⟩ := v
  simp only [V8.cells]
  go_enter Tryd.func58, Tryd.ntmps58
  go_wp2
  obtain ⟨W, hW⟩ : ∃ W, ((w.alloc (.cells #[.int .u32 a0, .int .u32 a1, .int .u32 a2, .int .u32 a3, .int .u32 a4, .int .u32 a5, .int .u32 a6, .int .u32 a7] 115)).alloc (.cells #[.int .u32 0, .int .u32 0, .int .u32 0, .int .u32 0, .int .u32 0, .int .u32 0, .int .u32 0, .int .u32 0] 115)).alloc (.cells #[.int .u32 0, .int .u32 0, .int .u32 0, .int .u32 0, .int .u32 0, .int .u32 0, .int .u32 0, .int .u32 0, .int .u32 0, .int .u32 0, .int .u32 0, .int .u32 0, .int .u32 0, .int .u32 0, .int .u32 0, .int .u32 0, .int .u32 0, .int .u32 0, .int .u32 0, .int .u32 0, .int .u32 0, .int .u32 0, .int .u32 0, .int .u32 0, .int .u32 0, .int .u32 0, .int .u32 0, .int .u32 0, .int .u32 0, .int .u32 0, .int .u32 0, .int .u32 0, .int .u32 0, .int .u32 0, .int .u32 0, .int .u32 0, .int .u32 0, .int .u32 0, .int .u32 0, .int .u32 0, .int .u32 0, .int .u32 0, .int .u32 0, .int .u32 0, .int .u32 0, .int .u32 0, .int .u32 0, .int .u32 0, .int .u32 0, .int .u32 0, .int .u32 0, .int .u32 0, .int .u32 0, .int .u32 0, .int .u32 0, .int .u32 0, .int .u32 0, .int .u32 0, .int .u32 0, .int .u32 0, .int .u32 0, .int .u32 0, .int .u32 0, .int .u32 0] 132) = W := ⟨_, rfl⟩
  rw [hW]
  have hA := alloc3 w (.cells #[.int .u32 a0, .int .u32 a1, .int .u32 a2, .int .u32 a3, .int .u32 a4, .int .u32 a5, .int .u32 a6, .int .u32 a7] 115) (.cells #[.int .u32 0, .int .u32 0, .int .u32 0, .int .u32 0, .int .u32 0, .int .u32 0, .int .u32 0, .int .u32 0] 115) (.cells #[.int .u32 0, .int .u32 0, .int .u32 0, .int .u32 0, .int .u32 0, .int .u32 0, .int .u32 0, .int .u32 0, .int .u32 0, .int .u32 0, .int .u32 0, .int .u32 0, .int .u32 0, .int .u32 0, .int .u32 0, .int .u32 0, .int .u32 0, .int .u32 0, .int .u32 0, .int .u32 0, .int .u32 0, .int .u32 0, .int .u32 0, .int .u32 0, .int .u32 0, .int .u32 0, .int .u32 0, .int .u32 0, .int .u32 0, .int .u32 0, .int .u32 0, .int .u32 0, .int .u32 0, .int .u32 0, .int .u32 0, .int .u32 0, .int .u32 0, .int .u32 0, .int .u32 0, .int .u32 0, .int .u32 0, .int .u32 0, .int .u32 0, .int .u32 0, .int .u32 0, .int .u32 0, .int .u32 0, .int .u32 0, .int .u32 0, .int .u32 0, .int .u32 0, .int .u32 0, .int .u32 0, .int .u32 0, .int .u32 0, .int .u32 0, .int .u32 0, .int .u32 0, .int .u32 0, .int .u32 0, .int .u32 0, .int .u32 0, .int .u32 0, .int .u32 0] 132)
  rw [hW] at hA
  obtain ⟨q2, q4, q5, hk, hz⟩ := hA
  have q5' : W.heap[w.heap.size + 1 + 1]? = some (.cells (arrI (wArr s 0)) 132) := q5
  obtain ⟨b2, hb2⟩ : ∃ b, b = w.heap.size := ⟨_, rfl⟩
  obtain ⟨b4, hb4⟩ : ∃ b, b = w.heap.size + 1 := ⟨_, rfl⟩
  obtain ⟨b5, hb5⟩ : ∃ b, b = w.heap.size + 1 + 1 := ⟨_, rfl⟩
  rw [← hb5] at q5' ⊢
  rw [← hb4] at q4 ⊢
  rw [← hb2] at q2 ⊢
  have Q2 := Lib.hid q2
  have Q4 := Lib.hid q4
  have Q5 := Lib.hid q5'
  have HK := Lib.hid hk
  have HB2 := Lib.hid hb2
  have HB4 := Lib.hid hb4
  have HB5 := Lib.hid hb5
  have hs1 : (64 : Int) ≤ s.size := by omega
  have HS := Lib.hid hs
  have HR := Lib.hid hR
  clear q2 q4 q5 q5' hk hz hW hb2 hb4 hb5 hs hR
  go_loopw [6, 7, 8, 9, 10, 11, 19] (fun _ _ _ _ _ _ k wr => ∃ t : Nat, t ≤ 64 ∧ k = .int .i64 t ∧ wr.heap[b5]? = some (.cells (arrI (wArr s t)) 132) ∧ Below b5 W wr)
    (fun _ _ _ _ _ _ k _ => 64 - (intOf k).toNat)
  case atStart => exact ⟨0, by omega, rfl, Q5.out, Below.refl _ _⟩
  case round =>
    obtain ⟨t, ht, rfl, hq, hbel⟩ := hrel
    obtain ⟨wo, rfl⟩ : ∃ wo : World, wo = wr := ⟨_, rfl⟩
    have HQ := Lib.hid hq
    have HL := Lib.hid hbel
    clear hq hbel
    by_cases h16 : t < 16
    · have g0 : (0 : Int) ≤ t := by omega
      have g1 : (t : Int) < 64 := by omega
      go_wp2
      go_loopw [7, 24] (fun _ k wr => ∃ i : Nat, i ≤ 4 ∧ k = .int .i64 i ∧ wr.heap[b5]? = some (.cells (arrI ((wArr s t).set t (pw s t i))) 132) ∧ Below b5 W wr)
        (fun _ k _ => 4 - (intOf k).toNat)
      case atStart =>
        refine ⟨0, by omega, rfl, ?_, HL.out⟩
        have e : (wArr s t).set t (pw s t 0) = wArr s t := by
          unfold wArr
          rw [List.set_append_right _ _ (by rw [sched_len]; exact Nat.le_refl _), sched_len, Nat.sub_self, show 64 - t = (64 - (t + 1)) + 1 by omega, List.replicate_succ, List.set_cons_zero]
          rfl
        rw [e]; exact HQ.out
      case round =>
        obtain ⟨i, hi, rfl, hq2, hbel2⟩ := hrel
        have HQ2 := Lib.hid hq2
        have HL2 := Lib.hid hbel2
        by_cases hi4 : i < 4
        · have c5 : wr.cell? ⟨b5, t, none⟩ = some (.int .u32 (pw s t i)) := by
            rw [cell_blk hq2, arrI_get _ _ (by rw [List.length_set, wArr_len s t (by omega)]; omega)]
            simp [List.getD, wArr_len s t (by omega), show t < 64 by omega]
          have f5 := frozen_blk (o := t) hq2
          clear hq2 hbel2
          have j0 : (0 : Int) ≤ 4 * (t : Int) + (i : Int) := by omega
          have j1 : 4 * (t : Int) + (i : Int) < s.size := by omega
          go_wp2_with fail
          go_region
          all_goals go_wp2
          go_roundw
          case rel =>
            refine ⟨i + 1, by omega, by go_num, ?_, ?_⟩
            · rw [heap_drew, heap_set_eq _ _ _ _ HQ2.out, arrI_set, List.set_set]
              have e : pw s t (i + 1) = Go.bits .or .u32 (pw s t i * 256 % 4294967296) (byteAt s (4 * t + i)) := rfl
              rw [e, byteAt_eq s (4 * t + i) (by omega)]
            · have hB := HL2.out
              exact (by repeat (first | exact Below.refl _ _ | assumption | refine Below.drewN ?_ _ | refine Below.drew ?_ | (refine Below.alloc' _ ?_ ?_; (focus ((first | omega | (simp; done) | (simp; omega))))) | (refine Below.setCell' _ ?_ ?_; (focus ((first | omega | (simp; done) | (simp; omega)))))))
          case measure => simp [intOf] <;> omega
        · obtain rfl : i = 4 := by omega
          clear hq2 hbel2
          go_wp2
          go_roundw
          case rel =>
            refine ⟨t + 1, by omega, by go_num, ?_, HL2.out⟩
            rw [← wArr_step s t (by omega), if_pos h16]; exact HQ2.out
          case measure => simp [intOf] <;> omega
    · by_cases h64 : t < 64
      · have hget : ∀ j, j < t → wo.cell? ⟨b5, j, none⟩ = some (.int .u32 ((sched s t).getD j 0)) := fun j hj => by
          rw [cell_blk HQ.out, arrI_get _ _ (by rw [wArr_len s t (by omega)]; omega), wArr_old s t j hj]
        have c15 := hget (t - 15) (by omega)
        have c2 := hget (t - 2) (by omega)
        have c7 := hget (t - 7) (by omega)
        have c16 := hget (t - 16) (by omega)
        have ct : wo.cell? ⟨b5, t, none⟩ = some (.int .u32 ((wArr s t).getD t 0)) := by
          rw [cell_blk HQ.out, arrI_get _ _ (by rw [wArr_len s t (by omega)]; omega)]
        have ft := frozen_blk (o := t) HQ.out
        have g0 : (0 : Int) ≤ t := by omega
        have g1 : (t : Int) < 64 := by omega
        clear hget
        have i0 : (0 : Int) ≤ (t : Int) - 15 := by omega
        have i1 : (t : Int) - 15 < 64 := by omega
        have i2 : (0 : Int) ≤ (t : Int) - 2 := by omega
        have i3 : (t : Int) - 2 < 64 := by omega
        have i4 : (0 : Int) ≤ (t : Int) - 7 := by omega
        have i5 : (t : Int) - 7 < 64 := by omega
        have i6 : (0 : Int) ≤ (t : Int) - 16 := by omega
        have i7 : (t : Int) - 16 < 64 := by omega
        have i8 : ((t : Int) - 15).toNat = t - 15 := by omega
        have i9 : ((t : Int) - 2).toNat = t - 2 := by omega
        have i10 : ((t : Int) - 7).toNat = t - 7 := by omega
        have i11 : ((t : Int) - 16).toNat = t - 16 := by omega
        go_wp2_with fail
        go_region
        go_wp2_with (go_at_call 71; refine (right_any _ _ _ (by omega) (by omega)).mono ?_; rintro e w' ⟨rfl, kk, rfl⟩)
        go_region
        all_goals go_wp2
        go_roundw
        case rel =>
          refine ⟨t + 1, by omega, by go_num, ?_, ?_⟩
          · rw [heap_set_eq _ _ _ _ ((congrArg (fun h => h[b5]?) (heap_drewN wo _)).trans HQ.out), arrI_set, ← wArr_step s t h64, if_neg h16]
            simp only [mix, List.getD]
          · have hB := HL.out
            exact (by repeat (first | exact Below.refl _ _ | assumption | refine Below.drewN ?_ _ | refine Below.drew ?_ | (refine Below.alloc' _ ?_ ?_; (focus ((first | omega | (simp; done) | (simp; omega))))) | (refine Below.setCell' _ ?_ ?_; (focus ((first | omega | (simp; done) | (simp; omega)))))))
        case measure => simp [intOf] <;> omega
      · obtain rfl : t = 64 := by omega
        have hlt25 : b2 < b5 := by have := HB2.out; have := HB5.out; omega
        have r2 : wo.heap[b2]? = _ := (HL.out.block _ hlt25).trans Q2.out
        have p0 := (cell_blk (o := 0) r2).trans rfl
        have p1 := (cell_blk (o := 1) r2).trans rfl
        have p2 := (cell_blk (o := 2) r2).trans rfl
        have p3 := (cell_blk (o := 3) r2).trans rfl
        have p4 := (cell_blk (o := 4) r2).trans rfl
        have p5 := (cell_blk (o := 5) r2).trans rfl
        have p6 := (cell_blk (o := 6) r2).trans rfl
        have p7 := (cell_blk (o := 7) r2).trans rfl
        have HR2 := Lib.hid r2
        clear r2
        go_wp2
        obtain ⟨W3, hW3⟩ : ∃ W3, wo.alloc (.cells #[.int .u32 a0, .int .u32 a1, .int .u32 a2, .int .u32 a3, .int .u32 a4, .int .u32 a5, .int .u32 a6, .int .u32 a7] 115) = W3 := ⟨_, rfl⟩
        rw [hW3]
        rw [show (((64 : Nat) : Int)) = 64 from rfl]
        obtain ⟨b12, hb12⟩ : ∃ b, wo.heap.size = b := ⟨_, rfl⟩
        rw [hb12]
        have q12 : W3.heap[b12]? = some (.cells (rounds R (wArr s 64) ⟨a0, a1, a2, a3, a4, a5, a6, a7⟩ 0).cells 115) := by rw [← hW3, ← hb12]; exact heap_alloc_new' _ _
        have hk3 : Kept wo W3 := by rw [← hW3]; exact (by repeat (first | exact Below.refl _ _ | assumption | refine Below.drewN ?_ _ | refine Below.drew ?_ | (refine Below.alloc' _ ?_ ?_; (focus ((first | omega | (simp; done) | (simp; omega))))) | (refine Below.setCell' _ ?_ ?_; (focus ((first | omega | (simp; done) | (simp; omega)))))))
        have h5lt : b5 < b12 := by rw [← hb12]; exact lt_blk HQ.out
        have q5 : W3.heap[b5]? = _ := (hk3.heap (lt_blk HQ.out)).trans HQ.out
        have hR3 : Roots W3 R := (HR.out.kept HK.out).heap ((hk3.heap (Nat.lt_of_lt_of_le (HR.out.kept HK.out).lt HL.out.size)).trans (HL.out.block _ (by have := HR.out.lt; have := HB5.out; omega)))
        have hr5 : 0 < b12 := by have := HR.out.lt; have := HB5.out; omega
        have Q12 := Lib.hid q12
        have HK3 := Lib.hid hk3
        have Q5b := Lib.hid q5
        have HR3 := Lib.hid hR3
        have HB12 := Lib.hid hb12
        have HW3 := Lib.hid hW3
        clear q12 hk3 q5 hR3 hb12 hW3 p0 p1 p2 p3 p4 p5 p6 p7
        go_loopw [13, 14, 15, 16, 17, 83] (fun _ _ _ _ _ k wr => ∃ t : Nat, t ≤ 64 ∧ k = .int .i64 t ∧ wr.heap[b12]? = some (.cells (rounds R (wArr s 64) ⟨a0, a1, a2, a3, a4, a5, a6, a7⟩ t).cells 115) ∧ Below b12 W3 wr)
          (fun _ _ _ _ _ k _ => 64 - (intOf k).toNat)
        case atStart => exact ⟨0, by omega, rfl, Q12.out, Below.refl _ _⟩
        case round =>
          obtain ⟨t, ht, rfl, hq, hbel⟩ := hrel
          by_cases h64 : t < 64
          · obtain ⟨⟨x0, x1, x2, x3, x4, x5, x6, x7⟩, hx⟩ : ∃ x, rounds R (wArr s 64) ⟨a0, a1, a2, a3, a4, a5, a6, a7⟩ t = x := ⟨_, rfl⟩
            rw [hx] at hq
            have y0 : wr.cell? ⟨b12, 0, none⟩ = some (.int .u32 x0) := by rw [cell_blk hq]; rfl
            have y1 : wr.cell? ⟨b12, 1, none⟩ = some (.int .u32 x1) := by rw [cell_blk hq]; rfl
            have y2 : wr.cell? ⟨b12, 2, none⟩ = some (.int .u32 x2) := by rw [cell_blk hq]; rfl
            have y3 : wr.cell? ⟨b12, 3, none⟩ = some (.int .u32 x3) := by rw [cell_blk hq]; rfl
            have y4 : wr.cell? ⟨b12, 4, none⟩ = some (.int .u32 x4) := by rw [cell_blk hq]; rfl
            have y5 : wr.cell? ⟨b12, 5, none⟩ = some (.int .u32 x5) := by rw [cell_blk hq]; rfl
            have y6 : wr.cell? ⟨b12, 6, none⟩ = some (.int .u32 x6) := by rw [cell_blk hq]; rfl
            have y7 : wr.cell? ⟨b12, 7, none⟩ = some (.int .u32 x7) := by rw [cell_blk hq]; rfl
            have fz : ∀ o, wr.frozen? ⟨b12, o, none⟩ = false := fun o => frozen_blk hq
            have cr : wr.cell? ⟨0, t, none⟩ = some (.int .u32 (R.getD t 0)) := (hbel.cell (p := ⟨0, t, none⟩) hr5).trans (HR3.out t h64)
            have cw : wr.cell? ⟨b5, t, none⟩ = some (.int .u32 ((wArr s 64).getD t 0)) := by
              rw [cell_blk ((hbel.block _ h5lt).trans Q5b.out), arrI_get _ _ (by rw [wArr_len s 64 (by omega)]; omega)]
            have g0 : (0 : Int) ≤ t := by omega
            have g1 : (t : Int) < 64 := by omega
            have HQ2 := Lib.hid hq
            have HB2' := Lib.hid hbel
            have HX := Lib.hid hx
            clear hq hbel hx
            go_wp2_with fail
            go_quiet ((fail))
            go_wp2_with fail
            go_quiet ((go_at_call 71; exact quiet_add (right_any _ _ _ (by omega) (by omega))))
            go_wp2_with fail
            go_quiet ((go_at_call 71; exact quiet_add (right_any _ _ _ (by omega) (by omega))))
            go_wp2
            go_roundw
            case rel =>
              refine ⟨t + 1, by omega, by go_num, ?_, ?_⟩
              · rw [show rounds R (wArr s 64) ⟨a0, a1, a2, a3, a4, a5, a6, a7⟩ (t + 1) = rnd (rounds R (wArr s 64) ⟨a0, a1, a2, a3, a4, a5, a6, a7⟩ t) (R.getD t 0) ((wArr s 64).getD t 0) from rfl, HX.out]
                exact (set8 (wr.drewN _) b12 _ _ _ _ _ _ _ _ ((congrArg (fun h => h[b12]?) (heap_drewN wr _)).trans HQ2.out)).1
              · exact (Below.drewN HB2'.out _).trans (set8 (wr.drewN _) b12 _ _ _ _ _ _ _ _ ((congrArg (fun h => h[b12]?) (heap_drewN wr _)).trans HQ2.out)).2
            case measure => simp [intOf] <;> omega
          · obtain rfl : t = 64 := by omega
            have q2 : wr.heap[b2]? = _ := (hbel.block _ (by omega)).trans ((HK3.out.heap (lt_blk HR2.out)).trans HR2.out)
            have q4 : wr.heap[b4]? = _ := (hbel.block _ (by have := HB4.out; have := HB5.out; omega)).trans ((HK3.out.heap (Nat.lt_of_lt_of_le (lt_blk Q4.out) HL.out.size)).trans ((HL.out.block _ (by have := HB4.out; have := HB5.out; omega)).trans Q4.out))
            obtain ⟨x, hx⟩ : ∃ x, rounds R (wArr s 64) ⟨a0, a1, a2, a3, a4, a5, a6, a7⟩ 64 = x := ⟨_, rfl⟩
            rw [hx, V8.cells_eq] at hq
            have hz1 : w.heap.size ≤ b5 := by have := HB5.out; omega
            have hz2 : b5 < wo.heap.size := lt_blk HQ.out
            have hkw : Kept w wr := Below.trans (Below.trans (Below.trans HK.out (Below.mono HL.out hz1)) (Below.mono HK3.out (by omega))) (Below.mono hbel (by have := HB12.out; omega))
            have hn2 : b12 ≠ b2 := by omega
            have hn4 : b4 ≠ b2 := by have := HB4.out; have := HB2.out; omega
            have hz4 : w.heap.size ≤ b4 := by have := HB4.out; omega
            have hz22 : w.heap.size ≤ b2 := by have := HB2.out; omega
            have HQ2 := Lib.hid (show wr.heap[b2]? = some (.cells (arrI (added (V8.list ⟨a0, a1, a2, a3, a4, a5, a6, a7⟩) x.list 0)) 115) by rw [added_zero]; exact q2)
            have HQ4 := Lib.hid q4
            have HQ12 := Lib.hid hq
            have HKW := Lib.hid hkw
            have HX := Lib.hid hx
            clear q2 q4 hq hkw hx hbel
            go_wp2
            go_loopw [18, 163] (fun _ k w2 => ∃ i : Nat, i ≤ 8 ∧ k = .int .i64 i ∧ w2.heap[b2]? = some (.cells (arrI (added (V8.list ⟨a0, a1, a2, a3, a4, a5, a6, a7⟩) x.list i)) 115) ∧ (∀ k, k < wr.heap.size → k ≠ b2 → w2.heap[k]? = wr.heap[k]?) ∧ Kept w w2)
              (fun _ k _ => 8 - (intOf k).toNat)
            case atStart => exact ⟨0, by omega, rfl, HQ2.out, fun _ _ _ => rfl, HKW.out⟩
            case round =>
              obtain ⟨i, hi, rfl, hq, hoth, hkw⟩ := hrel
              have q12 : _ = _ := (hoth b12 (lt_blk HQ12.out) hn2).trans HQ12.out
              have q4 : _ = _ := (hoth b4 (lt_blk HQ4.out) hn4).trans HQ4.out
              by_cases hi8 : i < 8
              · have u0 : wr.cell? ⟨b2, i, none⟩ = some (.int .u32 ((V8.list ⟨a0, a1, a2, a3, a4, a5, a6, a7⟩).getD i 0)) := by
                  rw [cell_blk hq, arrI_get _ _ (by simp [added, V8.list]; omega), added_get _ _ _ (by simp [V8.list]; omega)]
                have u1 : wr.cell? ⟨b12, i, none⟩ = some (.int .u32 (x.list.getD i 0)) := by
                  rw [cell_blk q12, arrI_get _ _ (by simp [V8.list]; omega)]
                have u2 := frozen_blk (o := i) hq
                have g0 : (0 : Int) ≤ i := by omega
                have g1 : (i : Int) < 8 := by omega
                have HA := Lib.hid hq
                have HO := Lib.hid hoth
                have HK5 := Lib.hid hkw
                clear hq hoth hkw q12 q4
                go_wp2_with fail
                go_region
                all_goals go_wp2
                go_roundw
                case rel =>
                  refine ⟨i + 1, by omega, by go_num, ?_, ?_, ?_⟩
                  · rw [heap_drew, heap_set_eq _ _ _ _ HA.out, arrI_set, ← added_step _ _ _ (by simp [V8.list]; omega)]
                    rfl
                  · intro k hk hk2
                    rw [heap_drew, heap_set_ne _ _ _ _ _ hk2]
                    exact HO.out k hk hk2
                  · have hB := HK5.out
                    exact (by repeat (first | exact Below.refl _ _ | assumption | refine Below.drewN ?_ _ | refine Below.drew ?_ | (refine Below.alloc' _ ?_ ?_; (focus ((first | omega | (simp; done) | (simp; omega))))) | (refine Below.setCell' _ ?_ ?_; (focus ((first | omega | (simp; done) | (simp; omega)))))))
                case measure => simp [intOf] <;> omega
              · obtain rfl : i = 8 := by omega
                have HO := Lib.hid hoth
                have HK5 := Lib.hid hkw
                rw [added_all, ← V8.cells_eq] at hq
                obtain ⟨⟨z0, z1, z2, z3, z4, z5, z6, z7⟩, hz⟩ : ∃ z, (V8.mk a0 a1 a2 a3 a4 a5 a6 a7).add x = z := ⟨_, rfl⟩
                rw [hz] at hq
                have s0 : wr.cell? ⟨b2, 0, none⟩ = some (.int .u32 z0) := by rw [cell_blk hq]; rfl
                have s1 : wr.cell? ⟨b2, 1, none⟩ = some (.int .u32 z1) := by rw [cell_blk hq]; rfl
                have s2 : wr.cell? ⟨b2, 2, none⟩ = some (.int .u32 z2) := by rw [cell_blk hq]; rfl
                have s3 : wr.cell? ⟨b2, 3, none⟩ = some (.int .u32 z3) := by rw [cell_blk hq]; rfl
                have s4 : wr.cell? ⟨b2, 4, none⟩ = some (.int .u32 z4) := by rw [cell_blk hq]; rfl
                have s5 : wr.cell? ⟨b2, 5, none⟩ = some (.int .u32 z5) := by rw [cell_blk hq]; rfl
                have s6 : wr.cell? ⟨b2, 6, none⟩ = some (.int .u32 z6) := by rw [cell_blk hq]; rfl
                have s7 : wr.cell? ⟨b2, 7, none⟩ = some (.int .u32 z7) := by rw [cell_blk hq]; rfl
                have o0 : wr.cell? ⟨b4, 0, none⟩ = some (.int .u32 0) := by rw [cell_blk q4]; rfl
                have o1 : wr.cell? ⟨b4, 1, none⟩ = some (.int .u32 0) := by rw [cell_blk q4]; rfl
                have o2 : wr.cell? ⟨b4, 2, none⟩ = some (.int .u32 0) := by rw [cell_blk q4]; rfl
                have o3 : wr.cell? ⟨b4, 3, none⟩ = some (.int .u32 0) := by rw [cell_blk q4]; rfl
                have o4 : wr.cell? ⟨b4, 4, none⟩ = some (.int .u32 0) := by rw [cell_blk q4]; rfl
                have o5 : wr.cell? ⟨b4, 5, none⟩ = some (.int .u32 0) := by rw [cell_blk q4]; rfl
                have o6 : wr.cell? ⟨b4, 6, none⟩ = some (.int .u32 0) := by rw [cell_blk q4]; rfl
                have o7 : wr.cell? ⟨b4, 7, none⟩ = some (.int .u32 0) := by rw [cell_blk q4]; rfl
                have fz : ∀ o, wr.frozen? ⟨b4, o, none⟩ = false := fun o => frozen_blk q4
                have HZ := Lib.hid hz
                have Q4b := Lib.hid q4
                clear hq hoth hkw q12 q4 hz
                go_wp2
                have e8 := set8 wr b4 (.int .u32 z0) (.int .u32 z1) (.int .u32 z2) (.int .u32 z3) (.int .u32 z4) (.int .u32 z5) (.int .u32 z6) (.int .u32 z7) Q4b.out
                have m0 := (cell_blk (o := 0) e8.1).trans rfl
                have m1 := (cell_blk (o := 1) e8.1).trans rfl
                have m2 := (cell_blk (o := 2) e8.1).trans rfl
                have m3 := (cell_blk (o := 3) e8.1).trans rfl
                have m4 := (cell_blk (o := 4) e8.1).trans rfl
                have m5 := (cell_blk (o := 5) e8.1).trans rfl
                have m6 := (cell_blk (o := 6) e8.1).trans rfl
                have m7 := (cell_blk (o := 7) e8.1).trans rfl
                refine bodyPost_ret (v := .agg #[.int .u32 z0, .int .u32 z1, .int .u32 z2, .int .u32 z3, .int .u32 z4, .int .u32 z5, .int .u32 z6, .int .u32 z7]) ?_ rfl ⟨?_, ?_⟩
                · simp [results, Tryd.results58, go_sem, m0, m1, m2, m3, m4, m5, m6, m7]
                · rw [behindV, HX.out, HZ.out]
                · exact Below.trans HK5.out (Below.mono e8.2 hz4)
end Go.Proofs.YtbhokalnkfdekaaDoor
