/- Heap lemmas, footprints, and how the two devices lie in memory. -/
import Derived.Test.YtbhokalnkfdekaaDoorProg
import Derived.WalkKit
import Derived.BigQuiet
import Derived.Deep.QuietTactic
import Derived.Deep.RegionHeld3
import Derived.Deep.AppendLies
import Derived.KernelRfl
import Derived.WalkSpells
import Derived.RowKit3
namespace Go.Proofs.YtbhokalnkfdekaaDoor
open Go.RowKit

/-! ### blocks -/
theorem cell_blk {w : World} {b o : Nat} {cs : Array Value} {t : TypeId} {f : Nat × Nat} (h : w.heap[b]? = some (.cells cs t f)) : w.cell? ⟨b, o, none⟩ = cs[o]? := by
  simp [World.cell?, h]
theorem frozen_blk {w : World} {b o : Nat} {cs : Array Value} {t : TypeId} (h : w.heap[b]? = some (.cells cs t (0, 0))) : w.frozen? ⟨b, o, none⟩ = false := by
  simp [World.frozen?, h]
theorem lt_blk {w : World} {b : Nat} {o : Obj} (h : w.heap[b]? = some o) : b < w.heap.size := (Array.getElem?_eq_some_iff.1 h).1
theorem heap_alloc_old (w : World) (o : Obj) (k : Nat) (h : k < w.heap.size) : (w.alloc o).heap[k]? = w.heap[k]? := Below.heap_alloc w o k h
theorem heap_alloc_new' (w : World) (o : Obj) : (w.alloc o).heap[w.heap.size]? = some o := heap_alloc_new w o
theorem heap_drew (w : World) : w.drew.heap = w.heap := rfl
theorem heap_drewN (w : World) (n : Nat) : (w.drewN n).heap = w.heap := by
  induction n generalizing w with
  | zero => rfl
  | succ n ih => exact ih _
theorem heap_set_ne (w : World) (b o : Nat) (v : Value) (k : Nat) (h : k ≠ b) : (w.setCell ⟨b, o, none⟩ v).heap[k]? = w.heap[k]? := Below.heap_setCell w _ v k h
theorem heap_set_eq (w : World) (b o : Nat) (v : Value) {cs : Array Value} {t : TypeId} {f : Nat × Nat} (h : w.heap[b]? = some (.cells cs t f)) :
    (w.setCell ⟨b, o, none⟩ v).heap[b]? = some (.cells (cs.setIfInBounds o v) t f) := by
  simp [World.setCell, Array.getElem?_modify, h]
theorem Below.drewN {B : Nat} {a w : World} (h : Below B a w) (n : Nat) : Below B a (w.drewN n) := by
  induction n generalizing w with
  | zero => exact h
  | succ n ih => exact (ih h).drew

theorem Below.alloc' {B : Nat} {a w : World} (o : Obj) (hB : B ≤ w.heap.size) (h : Below B a w) : Below B a (w.alloc o) := h.alloc hB o
theorem Below.setCell' {B : Nat} {a w : World} {p : Addr} (u : Value) (hp : B ≤ p.block) (h : Below B a w) : Below B a (w.setCell p u) := h.setCell hp u

/-! ### footprints -/
/-- Only blocks of F have turned; F' are the blocks of what came of it: F's own, or new ones. -/
structure Upd (F : List Nat) (w : World) (F' : List Nat) (w' : World) : Prop where
  os : w'.os = w.os
  tape : w'.tape = w.tape
  output : w'.output = w.output
  size : w.heap.size ≤ w'.heap.size
  block : ∀ k, k < w.heap.size → k ∉ F → w'.heap[k]? = w.heap[k]?
  new : ∀ k ∈ F', k ∈ F ∨ w.heap.size ≤ k

theorem Upd.trans {F F' F'' : List Nat} {w w' w'' : World} (h : Upd F w F' w') (g : Upd F' w' F'' w'') : Upd F w F'' w'' :=
  ⟨g.os.trans h.os, g.tape.trans h.tape, g.output.trans h.output, Nat.le_trans h.size g.size,
   fun k hk hF => (g.block k (Nat.lt_of_lt_of_le hk h.size) (fun hk' => (h.new k hk').elim hF (fun hle => by omega))).trans (h.block k hk hF),
   fun k hk => (g.new k hk).elim (fun h1 => (h.new k h1).imp id id) (fun h1 => .inr (Nat.le_trans h.size h1))⟩
theorem Upd.refl (F : List Nat) (w : World) : Upd F w F w := ⟨rfl, rfl, rfl, Nat.le_refl _, fun _ _ _ => rfl, fun _ h => .inl h⟩

/-- Nothing that was there has turned. -/
abbrev Kept (w w' : World) : Prop := Below w.heap.size w w'
theorem Kept.refl (w : World) : Kept w w := Below.refl _ _
theorem Kept.trans {a b c : World} (h : Kept a b) (k : Kept b c) : Kept a c := Below.trans h (k.mono h.size)
theorem bcell {W w1 : World} (hb : Kept W w1) : (∀ b o, b < W.heap.size → w1.cell? ⟨b, o, none⟩ = W.cell? ⟨b, o, none⟩) ∧ (∀ b o, b < W.heap.size → w1.frozen? ⟨b, o, none⟩ = W.frozen? ⟨b, o, none⟩) :=
  ⟨fun b o h => hb.cell (p := ⟨b, o, none⟩) h, fun b o h => hb.frozen (p := ⟨b, o, none⟩) h⟩
theorem Kept.upd {F : List Nat} {w w' : World} (h : Kept w w') : Upd F w F w' := ⟨h.os, h.tape, h.output, h.size, fun k hk _ => h.block k hk, fun _ hk => .inl hk⟩
theorem Kept.heap {w w' : World} (h : Kept w w') {k : Nat} (hk : k < w.heap.size) : w'.heap[k]? = w.heap[k]? := h.block k hk
theorem Upd.heap {F F' : List Nat} {w w' : World} (h : Upd F w F' w') {k : Nat} (hk : k < w.heap.size) (hF : k ∉ F) : w'.heap[k]? = w.heap[k]? := h.block k hk hF
theorem Upd.of_below {B : Nat} {F F' : List Nat} {w w' : World} (h : Below B w w') (hF : ∀ k, B ≤ k → k < w.heap.size → k ∈ F) (hn : ∀ k ∈ F', k ∈ F ∨ w.heap.size ≤ k) : Upd F w F' w' :=
  ⟨h.os, h.tape, h.output, h.size, fun k hk hkF => h.block k (by
    rcases Nat.lt_or_ge k B with h1 | h1
    · exact h1
    · exact absurd (hF k h1 hk) hkF), hn⟩
theorem Upd.kept_nil {F' : List Nat} {w w' : World} (h : Upd [] w F' w') : Kept w w' := ⟨h.os, h.tape, h.output, h.size, fun k hk => h.block k hk (by simp)⟩
/-- More than what turned may be named. -/
theorem Upd.frame {F F' : List Nat} {w w' : World} (h : Upd F w F' w') (G : List Nat) : Upd (G ++ F) w (G ++ F') w' :=
  ⟨h.os, h.tape, h.output, h.size, fun k hk hF => h.block k hk (fun h' => hF (by simp [h'])), fun k hk => by
    rcases List.mem_append.1 hk with h1 | h1
    · exact .inl (by simp [h1])
    · exact (h.new k h1).imp (fun h2 => by simp [h2]) id⟩
theorem Upd.sub {F F' G' : List Nat} {w w' : World} (h : Upd F w F' w') (hs : ∀ k ∈ G', k ∈ F') : Upd F w G' w' :=
  ⟨h.os, h.tape, h.output, h.size, h.block, fun k hk => h.new k (hs k hk)⟩
theorem Upd.wide {F F' G : List Nat} {w w' : World} (h : Upd F w F' w') (hs : ∀ k ∈ F, k ∈ G) : Upd G w F' w' :=
  ⟨h.os, h.tape, h.output, h.size, fun k hk hk' => h.block k hk (fun h2 => hk' (hs k h2)), fun k hk => (h.new k hk).imp (hs k) id⟩
/-- What is apart from F stays apart from F'. -/
theorem Upd.apart {F F' G : List Nat} {w w' : World} (h : Upd F w F' w') (hG : ∀ k ∈ G, k < w.heap.size) (hd : ∀ k ∈ G, k ∉ F) : ∀ k ∈ G, k ∉ F' :=
  fun k hk hk' => (h.new k hk').elim (hd k hk) (fun h2 => by have := hG k hk; omega)

theorem Upd.alloc {F F' : List Nat} {a w : World} (h : Upd F a F' w) (o : Obj) : Upd F a F' (w.alloc o) := h.trans (Kept.upd ((Below.refl _ w).alloc (Nat.le_refl _) o))
theorem Upd.drew {F F' : List Nat} {a w : World} (h : Upd F a F' w) : Upd F a F' w.drew := h.trans (Kept.upd (Below.refl _ w).drew)
theorem Upd.drewN {F F' : List Nat} {a w : World} (h : Upd F a F' w) (n : Nat) : Upd F a F' (w.drewN n) := h.trans (Kept.upd (Below.drewN (Below.refl _ w) n))
theorem Upd.setCell {F F' : List Nat} {a w : World} (h : Upd F a F' w) {p : Addr} (hp : p.block ∈ F ∨ a.heap.size ≤ p.block) (v : Value) : Upd F a F' (w.setCell p v) :=
  ⟨h.os, h.tape, h.output, by simp [World.setCell]; exact h.size, fun k hk hF => by
    rw [Below.heap_setCell w p v k (fun e => by subst e; rcases hp with h1 | h1; exact hF h1; omega)]; exact h.block k hk hF, h.new⟩

/-! ### the devices -/
structure Dv where
  s0 : List ByteArray
  s1 : List ByteArray
  l0 : Bool
  l1 : Bool
  ws : List (Int × Int × ByteArray)

def strs (l : List ByteArray) : Array Value := (l.map Value.string).toArray
def wcells (ws : List (Int × Int × ByteArray)) : List Value := ws.flatMap fun x => [.int .i64 x.1, .int .i64 x.2.1, .string x.2.2]
theorem wcells_len (ws : List (Int × Int × ByteArray)) : (wcells ws).length = ws.length * 3 := by
  induction ws with
  | nil => rfl
  | cons x l ih => simp only [wcells, List.flatMap_cons, List.length_append, List.length_cons, List.length_nil] at *; omega
theorem wcells_append (a b : List (Int × Int × ByteArray)) : wcells (a ++ b) = wcells a ++ wcells b := by simp [wcells]

def Dv.valid (D : Dv) (dev at' : Int) : Prop := (dev = 0 ∧ 0 ≤ at' ∧ at' < D.s0.length) ∨ (dev = 1 ∧ 0 ≤ at' ∧ at' < D.s1.length)
instance (D : Dv) (dev at' : Int) : Decidable (D.valid dev at') := by unfold Dv.valid; infer_instance

structure Dv.Ok (D : Dv) : Prop where
  le0 : D.s0.length ≤ 512
  le1 : D.s1.length ≤ 512
  t0 : ∀ s ∈ D.s0, s.size ≤ 1024
  t1 : ∀ s ∈ D.s1, s.size ≤ 1024
  tw : ∀ x ∈ D.ws, x.2.2.size ≤ 1024 ∧ D.valid x.1 x.2.1

structure IsDevs (w : World) (d b0 b1 : Nat) (wv : Value) (D : Dv) : Prop where
  blk : w.heap[d]? = some (.cells #[.slice (some ⟨b0, 0, none⟩) D.s0.length D.s0.length, .slice (some ⟨b1, 0, none⟩) D.s1.length D.s1.length, .bool D.l0, .bool D.l1, wv] 52 (0, 0))
  sec0 : w.heap[b0]? = some (.cells (strs D.s0) 9 (0, 0))
  sec1 : w.heap[b1]? = some (.cells (strs D.s1) 9 (0, 0))
  wait : w.ownsRow 0 75 3 wv D.ws.length (wcells D.ws)
  ok : D.Ok
  ne : b0 ≠ b1
  nd0 : d ≠ b0
  nd1 : d ≠ b1
  wb0 : wv.ownBlock ≠ some b0
  wb1 : wv.ownBlock ≠ some b1
  wbd : wv.ownBlock ≠ some d

/-- Devices at d, in the blocks F. -/
def Devs (w : World) (d : Nat) (D : Dv) (F : List Nat) : Prop := ∃ b0 b1 wv, IsDevs w d b0 b1 wv D ∧ F = d :: b0 :: b1 :: wv.ownBlock.toList

theorem ownsRow_heap {w w' : World} {base : Nat} {e : TypeId} {size : Nat} {v : Value} {n : Nat} {xs : List Value} (h : w.ownsRow base e size v n xs) (hb : ∀ k, v.ownBlock = some k → w'.heap[k]? = w.heap[k]?) : w'.ownsRow base e size v n xs := by
  obtain ⟨h1, h2⟩ := h
  refine ⟨h1, ?_⟩
  rcases h2 with h2 | ⟨g, cap, cur, rfl, hg, hh, r⟩
  · exact .inl h2
  · exact .inr ⟨g, cap, cur, rfl, hg, by rw [hb g rfl]; exact hh, r⟩

theorem Devs.lt {w : World} {d : Nat} {D : Dv} {F : List Nat} (h : Devs w d D F) : ∀ k ∈ F, k < w.heap.size := by
  obtain ⟨b0, b1, wv, h, rfl⟩ := h
  intro k hk
  simp only [List.mem_cons, Option.mem_toList] at hk
  rcases hk with rfl | rfl | rfl | hk
  · exact lt_blk h.blk
  · exact lt_blk h.sec0
  · exact lt_blk h.sec1
  · exact (h.wait.lt k hk).2

theorem Devs.heap {w w' : World} {d : Nat} {D : Dv} {F : List Nat} (h : Devs w d D F) (hb : ∀ k ∈ F, w'.heap[k]? = w.heap[k]?) : Devs w' d D F := by
  obtain ⟨b0, b1, wv, h, rfl⟩ := h
  refine ⟨b0, b1, wv, ⟨?_, ?_, ?_, ?_, h.ok, h.ne, h.nd0, h.nd1, h.wb0, h.wb1, h.wbd⟩, rfl⟩
  · rw [hb d (by simp)]; exact h.blk
  · rw [hb b0 (by simp)]; exact h.sec0
  · rw [hb b1 (by simp)]; exact h.sec1
  · exact ownsRow_heap h.wait (fun k hk => hb k (by simp [hk]))
theorem Devs.kept {w w' : World} {d : Nat} {D : Dv} {F : List Nat} (h : Devs w d D F) (hk : Kept w w') : Devs w' d D F := h.heap fun k hF => hk.heap (h.lt k hF)
theorem Devs.upd {w w' : World} {d : Nat} {D : Dv} {F G G' : List Nat} (h : Devs w d D F) (hu : Upd G w G' w') (hd : ∀ k ∈ F, k ∉ G) : Devs w' d D F := h.heap fun k hF => hu.heap (h.lt k hF) (hd k hF)
theorem Devs.ok {w : World} {d : Nat} {D : Dv} {F : List Nat} (h : Devs w d D F) : D.Ok := by obtain ⟨_, _, _, h, _⟩ := h; exact h.ok
theorem Devs.mem {w : World} {d : Nat} {D : Dv} {F : List Nat} (h : Devs w d D F) : d ∈ F := by obtain ⟨_, _, _, _, rfl⟩ := h; simp

/-- the length of a device -/
def Dv.len (D : Dv) (dev : Int) : Nat := if dev = 0 then D.s0.length else if dev = 1 then D.s1.length else 0
def Dv.lost (D : Dv) (dev : Int) : Bool := if dev = 0 then D.l0 else if dev = 1 then D.l1 else false
/-- what 'may' answers -/
def Dv.may (D : Dv) (dev at' : Int) (n : Nat) : Int := if D.valid dev at' ∧ n ≤ 1024 then (if D.lost dev then 5 else 0) else 1
/-- a sector -/
def Dv.sec (D : Dv) (dev at' : Int) : ByteArray := if dev = 0 then D.s0.getD at'.toNat ⟨#[]⟩ else D.s1.getD at'.toNat ⟨#[]⟩
/-- what is read at a place -/
def Dv.get (D : Dv) (dev at' : Int) : ByteArray :=
  match D.ws.reverse.find? (fun x => x.1 == dev && x.2.1 == at') with
  | some x => x.2.2
  | none => D.sec dev at'
def Dv.put (D : Dv) (x : Int × Int × ByteArray) : Dv := if x.1 = 0 then { D with s0 := D.s0.set x.2.1.toNat x.2.2 } else { D with s1 := D.s1.set x.2.1.toNat x.2.2 }
def Dv.write (D : Dv) (dev at' : Int) (s : ByteArray) : Dv := { D with ws := D.ws ++ [(dev, at', s)] }
def Dv.puts (D : Dv) (l : List (Int × Int × ByteArray)) : Dv := l.foldl Dv.put D
def Dv.flush (D : Dv) : Dv := { D.puts D.ws with ws := [] }
end Go.Proofs.YtbhokalnkfdekaaDoor
