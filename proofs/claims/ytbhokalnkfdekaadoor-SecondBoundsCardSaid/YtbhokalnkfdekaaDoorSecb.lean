/- Package second: the sectors of a group (an iterator). -/
import Derived.Test.YtbhokalnkfdekaaDoorSec
import Derived.RangeFuncNested
import Derived.RangeFuncBound
import Derived.RangeFuncCalls
import Derived.RangeFuncLeaves
import Derived.Shelf.Abstract
import Derived.Shelf.RegionOpen
import Derived.OwnWalkIn
import Derived.TacticsInMore
import Derived.LoopNIn
import Derived.LoopIn
namespace Go.Proofs.YtbhokalnkfdekaaDoor
open Go.RowKit
open Go.Proofs Go.Shelf
attribute [local go_sem] Oper.semAt_some

theorem Kept.grown {w w' : World} (h : Kept w w') : w.grownBy w' none := ⟨h.os, h.tape, h.output, h.size, fun k hk _ => h.block k hk⟩
theorem AbidesFrom.kept {β : Type} {B : Nat} {J : β → World → Prop} (h : AbidesFrom B J) {s : β} {w w' : World} (hj : J s w) (hk : Kept w w') : J s w' := h s w w' none hj hk.grown (fun r e => by cases e)

theorem sectors_any (s : Nat) (g : Nat) (w : World) :
    Calls Tryd.prog 20 #[.pointer (some ⟨s, 0, none⟩), .int .i64 g] w fun e w' =>
      e = .returned (.func (.func 36) #[] #[.pointer (some ⟨w.heap.size + 1, 0, none⟩), .pointer (some ⟨w.heap.size, 0, none⟩)]) ∧
      w' = (w.alloc (.cells #[.pointer (some ⟨s, 0, none⟩)] 27)).alloc (.cells #[.int .i64 g] 3) := by
  go_enter Tryd.func20, Tryd.ntmps20
  go_wp2
  go_ret
  exact ⟨by simp, rfl⟩

/-- a group's places, from its first on -/
def secs (n g : Nat) : List (Fin 7) := (List.finRange 7).take (roomN n - 7 * g)
def encF (f g : Nat) (x : Fin 7) : Array Value := #[.int .i64 (7 * g + x.val : Nat), .int .i64 (f + 8 * g + 1 + x.val : Nat)]

/-- what the iterator reads lies as it lay -/
def Sees (s gb sb f n g : Nat) (w : World) : Prop :=
  w.cell? ⟨s, 1, none⟩ = some (.int .i64 f) ∧ w.cell? ⟨s, 2, none⟩ = some (.int .i64 n) ∧ w.cell? ⟨gb, 0, none⟩ = some (.int .i64 g) ∧ w.cell? ⟨sb, 0, none⟩ = some (.pointer (some ⟨s, 0, none⟩))
theorem Sees.kept {s gb sb f n g : Nat} {w w' : World} (h : Sees s gb sb f n g w) (hk : Kept w w') : Sees s gb sb f n g w' := by
  obtain ⟨h1, h2, h3, h4⟩ := h
  have l1 := World.block_lt_of_cell? w _ h1
  have l3 := World.block_lt_of_cell? w _ h3
  have l4 := World.block_lt_of_cell? w _ h4
  exact ⟨by rw [hk.cell l1]; exact h1, by rw [hk.cell (p := ⟨s, 2, none⟩) l1]; exact h2, by rw [hk.cell l3]; exact h3, by rw [hk.cell l4]; exact h4⟩
/-- .. and goes on doing so -/
def SeesK (s gb sb f n g : Nat) (w w' : World) : Prop := Sees s gb sb f n g w → Sees s gb sb f n g w'

theorem secs_length (n g : Nat) : (secs n g).length = min 7 (roomN n - 7 * g) := by simp [secs, Nat.min_comm]
theorem secs_take (n g k : Nat) (h7 : k < 7) (h : k < min 7 (roomN n - 7 * g)) : (secs n g).take (k + 1) = (secs n g).take k ++ [⟨k, h7⟩] := by
  rw [List.take_add_one]
  congr 1
  simp only [secs]
  rw [List.getElem?_take_of_lt (by omega), List.getElem?_eq_getElem (by simpa using h7)]
  simp

theorem at_of (a c : Value) (w : World) : (Instr.field 42 (.agg #[a, c]) 1).run Tryd.prog w = .ok c w := by
  simp [Instr.field, run_underlying Tryd.underlying42, asAgg, part, Tryd.isAgg3, Tryd.sizeOf3, go_sem]

set_option maxRecDepth 100000 in
set_option maxHeartbeats 2000000 in
theorem sectors1_in (nn l s gb sb f n g B : Nat) (hnn : 3 ≤ nn) (hf : f ≤ 512) (hn : n ≤ 512) (hg : g ≤ 512) (J Jx : List (Fin 7) → World → Prop) (hJ : AbidesFrom B J)
    (hY : ∀ pre x W, J pre W → pre.length < (secs n g).length → YieldAt Fence.wide (nn - 1) Tryd.prog l (encF f g x) W fun e W' =>
      (e = .returned (.bool true) ∧ J (pre ++ [x]) W' ∧ SeesK s gb sb f n g W W') ∨ (e = .returned (.bool false) ∧ Jx (pre ++ [x]) W'))
    (W : World) (hS : Sees s gb sb f n g W) (h0 : J [] W) :
    CallsIn Fence.wide nn Tryd.prog 36 #[.func (.yield l) #[] #[], .pointer (some ⟨gb, 0, none⟩), .pointer (some ⟨sb, 0, none⟩)] W fun e W' => (∃ v, e = .returned v) ∧
      ((∃ ys, ys = secs n g ∧ J ys W') ∨ (∃ pre, pre <+: secs n g ∧ Jx pre W')) := by
  refine callsIn_of_wp Tryd.func36 rfl trivial ?_ rfl
  simp only [Tryd.ntmps36, List.size_toArray, List.length_cons, List.length_nil, Nat.reduceAdd, Nat.reduceSub, Array.replicate_succ, Array.replicate_zero, List.push_toArray, List.append_toArray, List.nil_append, List.cons_append]
  have HY := Lib.hid hY
  have HJ := Lib.hid hJ
  have hF1 : Fence.wide.fn 12 := trivial
  have hF2 : Fence.wide.fn 34 := trivial
  have hn1 : 1 ≤ nn := by omega
  clear hY hJ
  obtain ⟨m, hm⟩ : ∃ m, min 7 (roomN n - 7 * g) = m := ⟨_, rfl⟩
  have hl := secs_length n g
  rw [hm] at hl
  have HM := Lib.hid hm
  have HL := Lib.hid hl
  clear hm hl
  gi_wp2
  gi_loopw [6] (fun i wr => ∃ k : Nat, k ≤ m ∧ i = .int .i64 k ∧ Sees s gb sb f n g wr ∧ J ((secs n g).take k) wr)
    (fun i wr => (7 - intOf i).toNat)
  case atStart => exact ⟨0, by omega, rfl, hS, h0⟩
  case round =>
    obtain ⟨k, hk, rfl, hs, hj⟩ := hrel
    obtain ⟨c1, c2, c3, c4⟩ := hs
    have hs : Sees s gb sb f n g wr := ⟨c1, c2, c3, c4⟩
    have HS := Lib.hid hs
    have HJJ := Lib.hid hj
    clear hs hj
    have hroom : roomN n ≤ 512 := by unfold roomN; omega
    have hHM := HM.out
    have hm7 : m ≤ 7 := by omega
    by_cases h7 : k < 7
    · by_cases hr : 7 * g + k < roomN n
      · have hkm : k < m := by omega
        have g1 : ¬ (roomN n : Int) ≤ 7 * g + k := by omega
        clear hHM
        gi_wp2_with (first
          | (gi_at_call 12; refine (callsIn_wide.2 (room_any s n _ hn c2)).mono ?_; rintro e w' ⟨rfl, rfl⟩))
        obtain ⟨W1, hW1⟩ : ∃ W1, wr.drew = W1 := ⟨_, rfl⟩
        have hk1 : Kept wr W1 := by rw [← hW1]; exact (Below.refl _ _).drew
        obtain ⟨b1, b2, b3, b4⟩ := HS.out.kept hk1
        have HK1 := Lib.hid hk1
        rw [hW1]
        clear hk1 hW1 c1 c2 c3 c4
        gi_wp2_with (first
          | (gi_at_call 34; refine (callsIn_wide.2 (log_any s f g _ hf hg b1)).mono ?_; rintro e w' ⟨rfl, hk2⟩))
        have hJ2 : J ((secs n g).take k) w' := AbidesFrom.kept HJ.out HJJ.out (Kept.trans HK1.out hk2)
        have hS2 := HS.out.kept (Kept.trans HK1.out hk2)
        have hlk : ((secs n g).take k).length = k := by rw [List.length_take, HL.out]; omega
        obtain ⟨fn, tmps, assign, body, hy, hR⟩ := HY.out ((secs n g).take k) ⟨k, h7⟩ w' hJ2 (by rw [hlk, HL.out]; exact hkm)
        dsimp only [encF] at hy
        have e1 : ((7 * g + k : Nat) : Int) = 7 * (g : Int) + k := by omega
        have e2 : ((f + 8 * g + 1 + k : Nat) : Int) = (f : Int) + 8 * g + 1 + k := by omega
        rw [e1, e2] at hy
        have htk := secs_take n g k h7 (by rw [HM.out]; exact hkm)
        rw [← htk] at hR
        have HS2 := Lib.hid hS2
        have HTK := Lib.hid htk
        clear hJ2 hS2 htk e1 e2 hlk
        rw [at_of]
        simp only [Result.andThen]
        rw [Oper.uponIn_value]
        gi_wp2
        refine hR.mono ?_
        rintro e W3 (⟨rfl, hJ3, hk3⟩ | ⟨rfl, hJx3⟩)
        · have hS3 : Sees s gb sb f n g W3 := hk3 HS2.out
          have HS3 := Lib.hid hS3
          have HJ3 := Lib.hid hJ3
          clear hS3 hJ3 hk3 b1 b2 b3 b4
          gi_wp2
          go_roundw
          case rel => exact ⟨k + 1, by omega, by go_num, HS3.out, HJ3.out⟩
          case measure => simp [intOf]; omega
        · have HJ3 := Lib.hid hJx3
          clear hJx3 b1 b2 b3 b4
          gi_wp2
          refine bodyPost_ret (results_none rfl _ _ _) rfl ?_
          exact ⟨⟨_, rfl⟩, .inr ⟨_, List.take_prefix _ _, HJ3.out⟩⟩
      · have hkm : k = m := by omega
        have g1 : (roomN n : Int) ≤ 7 * g + k := by omega
        clear hHM
        gi_wp2_with (first
          | (gi_at_call 12; refine (callsIn_wide.2 (room_any s n _ hn c2)).mono ?_; rintro e w' ⟨rfl, rfl⟩))
        gi_wp2
        have hJe : J (secs n g) wr.drew := by
          have := AbidesFrom.kept HJ.out HJJ.out (Below.refl _ _).drew
          rwa [List.take_of_length_le (by rw [HL.out]; omega)] at this
        refine ⟨fun f h => (by cases h), ?_⟩
        gi_wp2
        refine bodyPost_ret (results_none rfl _ _ _) rfl ?_
        first
          | exact ⟨⟨_, rfl⟩, .inl ⟨_, rfl, hJe⟩⟩
          | exact ⟨⟨_, rfl⟩, .inl hJe⟩
    · have hkm : k = m := by omega
      have h7' : ¬ (k : Int) < 7 := by omega
      clear hHM
      gi_wp2
      have hJe : J (secs n g) wr := by
        have := HJJ.out
        rwa [List.take_of_length_le (by rw [HL.out]; omega)] at this
      go_end0
      first
        | exact ⟨⟨_, rfl⟩, .inl ⟨_, rfl, hJe⟩⟩
        | exact ⟨⟨_, rfl⟩, .inl hJe⟩
end Go.Proofs.YtbhokalnkfdekaaDoor
