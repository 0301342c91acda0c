/- Package second: Room, log, find, Entries. -/
import Derived.Test.YtbhokalnkfdekaaDoorKeyc
import Derived.Test.YtbhokalnkfdekaaDoorDevg
import Derived.Deep.RegionHeld3
namespace Go.Proofs.YtbhokalnkfdekaaDoor
open Go.RowKit
open Go.Proofs Go.Maps

/-- how many places a region of n sectors has -/
def roomN (n : Nat) : Nat := n / 8 * 7 + (n % 8 - 1)

/-- a cache: the first sector of its region, how many there are, its entries by their places, its number, its hand -/
structure Sc where
  from' : Nat
  n : Nat
  M : Nat → Option En
  seq : Nat
  hand : Nat

def enV (x : En) : Value := .agg (enCells x).toArray
def mapV (M : Nat → Option En) : Int → Option Value := fun k => if 0 ≤ k then (M k.toNat).map enV else none

/-- a cache in memory: block s, over the devices d, with the map b of at most m entries -/
structure IsSc (w : World) (s d b m : Nat) (S : Sc) : Prop where
  blk : w.heap[s]? = some (.cells #[.pointer (some ⟨d, 0, none⟩), .int .i64 S.from', .int .i64 S.n, .map (some b), .int .i64 S.seq, .int .i64 S.hand] 55 (0, 0))
  mp : Mp w b m (mapV S.M)
  okn : S.n ≤ 512
  okf : S.from' ≤ 512
  okm : ∀ p x, S.M p = some x → p < roomN S.n ∧ OkEn x

section
variable {w w' : World} {s d b m : Nat} {S : Sc}
theorem IsSc.heap (h : IsSc w s d b m S) (h1 : w'.heap[s]? = w.heap[s]?) (h2 : w'.heap[b]? = w.heap[b]?) : IsSc w' s d b m S := ⟨h1.trans h.blk, h.mp.heap h2, h.okn, h.okf, h.okm⟩
theorem IsSc.kept (h : IsSc w s d b m S) (hk : Kept w w') : IsSc w' s d b m S := h.heap (hk.heap (lt_blk h.blk)) (hk.heap h.mp.lt)
theorem IsSc.c0 (h : IsSc w s d b m S) : w.cell? ⟨s, 0, none⟩ = some (.pointer (some ⟨d, 0, none⟩)) := by rw [cell_blk h.blk]; rfl
theorem IsSc.c1 (h : IsSc w s d b m S) : w.cell? ⟨s, 1, none⟩ = some (.int .i64 S.from') := by rw [cell_blk h.blk]; rfl
theorem IsSc.c2 (h : IsSc w s d b m S) : w.cell? ⟨s, 2, none⟩ = some (.int .i64 S.n) := by rw [cell_blk h.blk]; rfl
theorem IsSc.c3 (h : IsSc w s d b m S) : w.cell? ⟨s, 3, none⟩ = some (.map (some b)) := by rw [cell_blk h.blk]; rfl
theorem IsSc.c4 (h : IsSc w s d b m S) : w.cell? ⟨s, 4, none⟩ = some (.int .i64 S.seq) := by rw [cell_blk h.blk]; rfl
theorem IsSc.c5 (h : IsSc w s d b m S) : w.cell? ⟨s, 5, none⟩ = some (.int .i64 S.hand) := by rw [cell_blk h.blk]; rfl
theorem IsSc.fz (h : IsSc w s d b m S) (o : Nat) : w.frozen? ⟨s, o, none⟩ = false := frozen_blk h.blk
end

theorem wrapI (y : Int) (h : -1000000 ≤ y ∧ y ≤ 1000000) : IntKind.i64.wrap y = y := by
  simp [IntKind.wrap, IntKind.bits, IntKind.signed]
  split <;> omega

theorem room_any (s n : Nat) (w : World) (hn : n ≤ 512) (h : w.cell? ⟨s, 2, none⟩ = some (.int .i64 n)) :
    Calls Tryd.prog 12 #[.pointer (some ⟨s, 0, none⟩)] w fun e w' => e = .returned (.int .i64 (roomN n)) ∧ w' = w.drew := by
  have e3 : IntKind.i64.wrap (IntKind.i64.wrap (IntKind.i64.wrap ((n : Int) / 8) * 7) + max (IntKind.i64.wrap ((n : Int) % 8 - 1)) 0) = (roomN n : Int) := by
    have hm : max ((n : Int) % 8 - 1) 0 = ((n % 8 - 1 : Nat) : Int) := by omega
    rw [wrapI ((n : Int) / 8) (by omega), wrapI ((n : Int) / 8 * 7) (by omega), wrapI ((n : Int) % 8 - 1) (by omega), hm, wrapI _ (by omega)]
    unfold roomN; omega
  go_enter Tryd.func12, Tryd.ntmps12
  go_wp2
  go_region_held3 (fun w' => w'.cell? ⟨s, 2, none⟩ = some (.int .i64 n)) ((simp [*])) (fail)
  go_wp2
  go_ret
  exact ⟨by rw [← e3]; rfl, rfl⟩

theorem log_any (s f g : Nat) (w : World) (hf : f ≤ 512) (hg : g ≤ 512) (h : w.cell? ⟨s, 1, none⟩ = some (.int .i64 f)) :
    Calls Tryd.prog 34 #[.pointer (some ⟨s, 0, none⟩), .int .i64 g] w fun e w' => e = .returned (.agg #[.int .i64 1, .int .i64 ((f : Int) + 8 * g)]) ∧ Kept w w' := by
  have hlt := World.block_lt_of_cell? w _ h
  go_enter Tryd.func34, Tryd.ntmps34
  go_wp2
  refine bodyPost_ret (v := .agg #[.int .i64 1, .int .i64 ((f : Int) + 8 * g)]) (by simp [results, Tryd.results34, go_sem]) rfl ⟨rfl, (by repeat (first | exact Below.refl _ _ | assumption | refine Below.drewN ?_ _ | refine Below.drew ?_ | (refine Below.alloc' _ ?_ ?_; (focus ((first | omega | (simp; done) | (simp; omega))))) | (refine Below.setCell' _ ?_ ?_; (focus ((first | omega | (simp; done) | (simp; omega)))))))⟩

def placesOf (S : Sc) : List Nat := (List.range (roomN S.n)).filter (fun p => (S.M p).isSome)
def hasKey (S : Sc) (key : ByteArray) (p : Nat) : Bool := match S.M p with | some x => decide (x.key = key) | none => false
def findP (S : Sc) (key : ByteArray) : Option Nat := (placesOf S).find? (hasKey S key)

def foundV : Option Nat → Value | some p => .tuple #[.int .i64 p, .bool true] | none => .tuple #[.int .i64 0, .bool false]

theorem find_at {f : Nat → Bool} : ∀ {l : List Nat} {k p : Nat}, l[k]? = some p → f p = true → (∀ j q, j < k → l[j]? = some q → f q = false) → l.find? f = some p
  | [], k, p, h, _, _ => by simp at h
  | a :: l, 0, p, h, hf, _ => by simp at h; subst h; simp [hf]
  | a :: l, k + 1, p, h, hf, hno => by
    have ha := hno 0 a (by omega) rfl
    simp only [List.find?_cons, ha]
    exact find_at (k := k) (by simpa using h) hf (fun j q hj hq => hno (j + 1) q (by omega) (by simpa using hq))
theorem find_not {f : Nat → Bool} : ∀ {l : List Nat}, (∀ j q, j < l.length → l[j]? = some q → f q = false) → l.find? f = none
  | [], _ => rfl
  | a :: l, hno => by
    have ha := hno 0 a (by simp) rfl
    simp only [List.find?_cons, ha]
    exact find_not (fun j q hj hq => hno (j + 1) q (by simp; omega) (by simpa using hq))
theorem bytes_ne {a c : ByteArray} (h : ¬ a = c) : ¬ a.toList = c.toList := by
  intro e
  rw [ByteArray.toList_eq, ByteArray.toList_eq] at e
  exact h (ByteArray.ext (Array.toList_inj.1 e))

theorem mapV_nat (M : Nat → Option En) (p : Nat) : mapV M (p : Int) = (M p).map enV := by simp [mapV]
theorem placesOf_mem {S : Sc} (hok : ∀ p x, S.M p = some x → p < roomN S.n ∧ OkEn x) (k : Int) : k ∈ (placesOf S).map (fun p : Nat => (p : Int)) ↔ (mapV S.M k).isSome = true := by
  constructor
  · intro h
    obtain ⟨p, hp, rfl⟩ := List.mem_map.1 h
    rw [mapV_nat]
    have := (List.mem_filter.1 hp).2
    simpa using this
  · intro h
    unfold mapV at h
    split at h
    · rename_i h0
      rw [Option.isSome_map] at h
      obtain ⟨x, hx⟩ := Option.isSome_iff_exists.1 h
      exact List.mem_map.2 ⟨k.toNat, List.mem_filter.2 ⟨List.mem_range.2 (hok _ _ hx).1, h⟩, by omega⟩
    · simp at h
theorem placesOf_sorted (S : Sc) : ((placesOf S).map (fun p : Nat => (p : Int))).Pairwise (· < ·) := by
  rw [List.pairwise_map]
  exact (List.Pairwise.filter _ List.pairwise_lt_range).imp (fun h => by omega)
theorem placesOf_len (S : Sc) (hn : S.n ≤ 512) : (placesOf S).length ≤ 512 := by
  have h1 : (placesOf S).length ≤ (List.range (roomN S.n)).length := List.length_filter_le _ _
  rw [List.length_range] at h1
  unfold roomN at h1
  omega

theorem key_of (a c : ByteArray) (n k : Int) (w : World) : (Instr.field 69 (.agg #[.string a, .string c, .int .i64 n, .int .i64 k]) 0).run Tryd.prog w = .ok (.string a) w := by
  simp [Instr.field, run_underlying Tryd.underlying69, asAgg, part, Tryd.isAgg9, Tryd.sizeOf9, go_sem]

/-- ints in a row -/
def IRow (w : World) (base : Nat) (v : Value) (l : List Nat) : Prop := w.ownsRow base 3 1 v l.length (l.map fun p : Nat => Value.int .i64 (p : Int))
theorem IRow.slice {w : World} {base : Nat} {v : Value} {l : List Nat} (h : IRow w base v l) : ∃ p c, v = .slice p l.length c := by
  rcases h.2 with ⟨e, h0⟩ | ⟨g, c, cur, e, _⟩
  · exact ⟨none, 0, by rw [e, h0]⟩
  · exact ⟨_, _, e⟩
theorem IRow.blk {w : World} {base : Nat} {p : Option Addr} {n c : Nat} {l : List Nat} (h : IRow w base (.slice p n c) l) (hl : 0 < l.length) : ∃ g, p = some ⟨g, 0, none⟩ ∧ base ≤ g ∧ g < w.heap.size := by
  rcases h.2 with ⟨e, h0⟩ | ⟨g, c, cur, e, hb, hg, _⟩
  · omega
  · cases e; exact ⟨g, rfl, hb, lt_blk hg⟩
theorem IRow.cell {w : World} {base g c : Nat} {l : List Nat} (h : IRow w base (.slice (some ⟨g, 0, none⟩) l.length c) l) {k p : Nat} (hx : l[k]? = some p) : w.cell? ⟨g, k, none⟩ = some (.int .i64 p) :=
  ownsRow_cell h _ _ (by simp [hx])
theorem IRow.kept {w w' : World} {base : Nat} {v : Value} {l : List Nat} (h : IRow w base v l) (hk : Kept w w') : IRow w' base v l := ownsRow_heap h (fun k hkk => hk.heap (World.ownsRow.lt h k hkk).2)

theorem sorted_sc (b m : Nat) (S : Sc) (w : World) (h : Mp w b m (mapV S.M)) (hok : ∀ p x, S.M p = some x → p < roomN S.n ∧ OkEn x) (hm : m ≤ 1000000) :
    Calls Tryd.prog 32 #[.func (.func 46) #[] #[.pointer (some ⟨w.heap.size, 0, none⟩)]] (w.alloc (.cells #[.map (some b)] 53)) fun e w' =>
      ∃ v, e = .returned v ∧ IRow w' (w.heap.size + 1) v (placesOf S) ∧ Kept w w' := by
  refine (sorted_any b m (mapV S.M) ((placesOf S).map (fun p : Nat => (p : Int))) w h (by omega) (placesOf_sorted S) (placesOf_mem hok)).mono ?_
  rintro e w' ⟨v, rfl, hr, hk⟩
  refine ⟨v, rfl, ?_, hk⟩
  unfold IRow
  simpa [List.map_map, Function.comp_def] using hr

set_option maxRecDepth 100000 in
set_option maxHeartbeats 2000000 in
theorem find_any (s d b m : Nat) (S : Sc) (key : ByteArray) (w : World) (h : IsSc w s d b m S) (hm : m ≤ 1000000) :
    Calls Tryd.prog 19 #[.pointer (some ⟨s, 0, none⟩), .string key] w fun e w' => e = .returned (foundV (findP S key)) ∧ Kept w w' := by
  have c3 := h.c3
  have hlt := lt_blk h.blk
  have hCS := sorted_sc b m S w h.mp h.okm hm
  have hpl := placesOf_len S h.okn
  have HCS := Lib.hid hCS
  have H := Lib.hid h
  clear h hCS
  go_enter Tryd.func19, Tryd.ntmps19
  go_wp2_with fail
  refine (keys_any b w).mono ?_
  rintro e w1 ⟨rfl, rfl⟩
  go_wp2_with fail
  refine HCS.out.mono ?_
  rintro e w2 ⟨v, rfl, hrow, hk⟩
  obtain ⟨q, c, rfl⟩ := hrow.slice
  have HROW := Lib.hid hrow
  have HK := Lib.hid hk
  have c3' : w2.cell? ⟨s, 3, none⟩ = some (.map (some b)) := by rw [hk.cell hlt]; exact c3
  obtain ⟨L, hL⟩ : ∃ L, L = (placesOf S).length := ⟨_, rfl⟩
  rw [← hL]
  have HL := Lib.hid hL
  rw [← hL] at hpl
  have hmp2 := H.out.mp.kept hk
  have HM2 := Lib.hid hmp2
  clear hrow hk HCS hL c3 hmp2
  go_wp2
  go_loopw [15] (fun i wr => ∃ k : Nat, k ≤ L ∧ i = .int .i64 k ∧ (∀ j p, j < k → (placesOf S)[j]? = some p → hasKey S key p = false) ∧ wr = w2) (fun i _ => L - (intOf i).toNat)
  case atStart => exact ⟨0, by omega, rfl, fun j p hj => absurd hj (by omega), rfl⟩
  case round =>
    obtain ⟨k, hk, rfl, hno, rfl⟩ := hrel
    by_cases hlk : k < L
    · obtain ⟨p, hp⟩ : ∃ p, (placesOf S)[k]? = some p := ⟨_, List.getElem?_eq_getElem (by have := HL.out; omega)⟩
      have hpm := List.mem_of_getElem? hp
      obtain ⟨x, hx⟩ : ∃ x, S.M p = some x := Option.isSome_iff_exists.1 (List.mem_filter.1 hpm).2
      have hpr := (H.out.okm p x hx).1
      have hp4 : p ≤ 1000 := by have := H.out.okn; unfold roomN at hpr; omega
      obtain ⟨g, rfl, _, _⟩ := HROW.out.blk (by have := HL.out; omega)
      have e0 := HROW.out.cell hp
      have hlook := HM2.out.look Tryd.underlying53 (Tryd.zeroValue69 wr) (k := (p : Int)) (by unfold Wf; omega)
      rw [mapV_nat, hx] at hlook
      simp only [Option.map_some, Option.getD_some, enV, enCells] at hlook
      have HP := Lib.hid hp
      have HX := Lib.hid hx
      have HNO := Lib.hid hno
      clear hpm hp hx hno
      by_cases hxk : x.key = key
      · subst hxk
        go_wp2
        rw [key_of]
        simp only [Result.andThen]
        rw [Oper.upon_value]
        go_wp2
        have hf : findP S x.key = some p := find_at HP.out (by simp [hasKey, HX.out]) HNO.out
        refine bodyPost_ret (v := .tuple #[.int .i64 p, .bool true]) (by simp [results, Tryd.results19, go_sem]) rfl ⟨by rw [hf]; rfl, HK.out⟩
      · have hxl := bytes_ne hxk
        have hxb : (x.key.toList == key.toList) = false := by simpa using hxl
        go_wp2
        rw [key_of]
        simp only [Result.andThen]
        rw [Oper.upon_value]
        go_wp2
        go_roundw
        case rel =>
          refine ⟨k + 1, by omega, by go_num, fun j q hj hq => ?_, trivial⟩
          by_cases hjk : j = k
          · subst hjk
            rw [HP.out] at hq
            cases hq
            simp [hasKey, HX.out, hxk]
          · exact HNO.out j q (by omega) hq
        case measure => simp [intOf]; omega
    · obtain rfl : k = L := by omega
      have hf : findP S key = none := find_not (by rw [← HL.out]; exact hno)
      clear hno
      go_wp2
      refine bodyPost_ret (v := .tuple #[.int .i64 0, .bool false]) (by simp [results, Tryd.results19, go_sem]) rfl ⟨by rw [hf]; rfl, HK.out⟩
end Go.Proofs.YtbhokalnkfdekaaDoor
