/- What a crash leaves of a cache; the law SecondCrash, walked. -/
import Derived.Test.YtbhokalnkfdekaaGreatDoorLive
namespace Go.Proofs.YtbhokalnkfdekaaGreatDoor
open Go.RowKit
open Go.Proofs Go.Maps

theorem crash_any2 (d : Nat) (D : Dv) (F : List Nat) (keep : List Bool) (v : Value) (w : World) (h : Devs w d D F) (hk : Bools w v keep) (hl : keep.length ≤ 1000000) (hap : keep ≠ [] → ∀ a n cap, v = .slice (some a) n cap → a.block ∉ F) :
    Calls Tryz.prog 14 #[.pointer (some ⟨d, 0, none⟩), v] w fun e w' => e = .returned (.int .i64 0) ∧ ∃ F', Devs w' d (D.crash keep) F' ∧ Upd F w F' w' := by
  have hF := h.lt
  obtain ⟨pv, nv, cv, rfl⟩ : ∃ p n cap, v = .slice p n cap := by
    rcases hk with ⟨_, p, cap, e⟩ | ⟨kb, ko, cap, e, _⟩
    · exact ⟨_, _, _, e⟩
    · exact ⟨_, _, _, e⟩
  obtain ⟨b0, b1, wv, h, rfl⟩ := h
  have hb0 := hF b0 (by simp)
  have hb1 := hF b1 (by simp)
  have hW : IsDevs (w.alloc (.cells #[.slice pv nv cv] 23)) d b0 b1 wv D := h.kept (by repeat (first | exact Below.refl _ _ | assumption | refine Below.drewN ?_ _ | refine Below.drew ?_ | (refine Below.alloc' _ ?_ ?_; (focus ((first | omega | (simp; done) | (simp; omega))))) | (refine Below.setCell' _ ?_ ?_; (focus ((first | omega | (simp; done) | (simp; omega)))))))
  have hc := done_crash w.heap.size d b0 b1 wv D _ hW (keepB keep) _ rfl (fun W hW i => by
    have hne : w.heap.size ∉ [b0, b1] := by simp; omega
    have e := hW.heap (k := w.heap.size) (by simp) hne
    rw [heap_alloc_new'] at e
    have ec : W.cell? ⟨w.heap.size, 0, none⟩ = some (.slice pv nv cv) := by rw [cell_blk e]; rfl
    rcases hk with ⟨rfl, p, cap, e0⟩ | ⟨kb, ko, cap, e0, hkb, hk⟩
    · cases e0
      exact (crash1_nil _ _ w.heap.size i W ec).mono fun e w' h => by simpa [keepB] using h
    · cases e0
      refine crash1_any keep w.heap.size kb ko _ i W ec (fun j hj => ?_) hl
      have hnF := hap (by rintro rfl; simp at hj) _ _ _ rfl
      have e2 := hW.heap (k := kb) (by simp; omega) (by simp at hnF ⊢; omega)
      rw [World.cell?_of_block (w := w) (a := ⟨kb, ko + j, none⟩) (e2.trans (heap_alloc_old _ _ _ hkb))]
      exact hk j hj)
  have HC := Lib.hid hc
  clear h hc hW hk hap
  go_enter Tryz.func14, Tryz.ntmps14
  go_wp2_with (go_at_call 44; refine HC.out.mono ?_; rintro e w1 ⟨rfl, hI, hU⟩; (have HI := Lib.hid hI); (have HU := Lib.hid hU); clear hI hU)
  go_ret
  exact ⟨rfl, _, ⟨b0, b1, _, HI.out, rfl⟩, ((((Upd.refl _ w).alloc _).trans (HU.out.frame wv.ownBlock.toList)).wide (by intro k; simp; rintro (h | h | h | h) <;> simp [h])).sub (by simp [Value.ownBlock])⟩

/-- a cache that is fed, and may crash -/
structure Run (R : List Int) (H : ByteArray → ByteArray → Prop) (f n k : Nat) (T : Sc × Dv) : Prop where
  inv : Inv R H T.1 T.2
  ws : T.2.ws.length ≤ 1
  seq : T.1.seq ≤ 2 * k
  fr : T.1.from' = f
  nn : T.1.n = n
  back : ∃ S0 : Sc, S0.from' = f ∧ S0.n = n ∧ S0.seq ≤ 2 * k ∧ Inv R H S0 { T.2 with ws := [] }

theorem Run.new (R : List Int) (H : ByteArray → ByteArray → Prop) (a b f n : Nat) (hn : 2 ≤ n) (hr : f + n ≤ b) (hb : b ≤ 512) : Run R H f n 0 (Sc.new f n, Dv.new a b) := by
  have h := Inv.new R H a b f n hn hr hb
  exact ⟨h, by simp [Dv.new], by simp [Sc.new], rfl, rfl, Sc.new f n, rfl, rfl, by simp [Sc.new], h⟩
theorem Run.feed {R : List Int} {H : ByteArray → ByteArray → Prop} {f n k : Nat} {T : Sc × Dv} {x : Fe} (h : Run R H f n k T) (hH : goodFeed x.1 x.2 → H x.1 x.2) : Run R H f n (k + 1) (feedT R x T) := by
  obtain ⟨S, D⟩ := T
  have hs := h.seq
  simp only at hs
  obtain ⟨S0, a1, a2, a3, a4⟩ := h.back
  unfold feedT
  split
  · rename_i hg
    split
    · exact ⟨h.inv, h.ws, by simp only; omega, h.fr, h.nn, S0, a1, a2, by omega, a4⟩
    · refine ⟨h.inv.feed (by have := h.ws; omega) _ _ hg (hH hg), feedN_ws _ _, ?_, ?_, ?_, ?_⟩
      · rw [feedN_eq]; simp only; omega
      · rw [feedN_eq]; exact h.fr
      · rw [feedN_eq]; exact h.nn
      · refine ⟨{ S with M := dropM S.M S.hand, seq := S.seq + 1 }, h.fr, h.nn, by simp only; omega, ?_⟩
        rw [feedN_eq]
        exact h.inv.half (by have := h.ws; omega) h.inv.hand x.2
  · exact ⟨h.inv, h.ws, by simp only; omega, h.fr, h.nn, S0, a1, a2, by omega, a4⟩

theorem Run.crash {R : List Int} {H : ByteArray → ByteArray → Prop} {f n k : Nat} {T : Sc × Dv} (h : Run R H f n k T) (keep : List Bool) : ∃ S0 : Sc, S0.from' = f ∧ S0.n = n ∧ S0.seq ≤ 2 * k ∧ Inv R H S0 (T.2.crash keep) := by
  have hws := h.ws
  rcases hw : T.2.ws with _ | ⟨x, _ | ⟨y, l⟩⟩
  · have e : T.2.crash keep = { T.2 with ws := [] } := by simp [Dv.crash, hw, keptL, Dv.puts]
    rw [e]; exact h.back
  · cases hk : keepB keep 0 with
    | true =>
      have e : T.2.crash keep = T.2.flush := by simp [Dv.crash, Dv.flush, hw, keptL, hk]
      rw [e]
      exact ⟨T.1, h.fr, h.nn, h.seq, h.inv.flush⟩
    | false =>
      have e : T.2.crash keep = { T.2 with ws := [] } := by simp [Dv.crash, hw, keptL, hk, Dv.puts]
      rw [e]; exact h.back
  · rw [hw] at hws; simp at hws

noncomputable def feeds (R : List Int) (l : List Fe) (T : Sc × Dv) : Sc × Dv := l.foldl (fun T x => feedT R x T) T
theorem feeds_snoc (R : List Int) (l : List Fe) (x : Fe) (T : Sc × Dv) : feeds R (l ++ [x]) T = feedT R x (feeds R l T) := by simp [feeds]

/-- what is fed -/
def inL (l : List Fe) (a t : ByteArray) : Prop := ∃ x ∈ l, x.1 = a ∧ x.2 = t
theorem inL_eq {l : List Fe} (hp : PlainP l) {i : Nat} {x : Fe} (hx : l[i]? = some x) {t : ByteArray} (h : inL l x.1 t) : t = x.2 := by
  obtain ⟨y, hy, h1, h2⟩ := h
  obtain ⟨j, hj⟩ := List.mem_iff_getElem?.1 hy
  rcases Nat.lt_trichotomy i j with h3 | h3 | h3
  · exact absurd h1.symm (hp.ne i j x y h3 hx hj)
  · subst h3; rw [hx] at hj; cases hj; exact h2.symm
  · exact absurd h1 (hp.ne j i y x h3 hj hx)
theorem finds_plain {l : List Fe} (hp : PlainP l) {i : Nat} {x : Fe} (hx : l[i]? = some x) {S : Sc} {t : ByteArray} {is : Bool} (h : Finds (inL l) S x.1 t is) : (is = false ∧ t = ⟨#[]⟩) ∨ (is = true ∧ t = x.2) := by
  cases h with
  | no h => exact .inl ⟨rfl, rfl⟩
  | yes t p y hy hk hH => exact .inr ⟨rfl, inL_eq hp hx hH⟩
theorem entriesOf_le (S : Sc) : (entriesOf S (placesOf S)).length ≤ roomN S.n := by
  have h1 : (entriesOf S (placesOf S)).length ≤ (placesOf S).length := List.length_filterMap_le _ _
  have h2 : (placesOf S).length ≤ (List.range (roomN S.n)).length := List.length_filter_le _ _
  rw [List.length_range] at h2
  omega
end Go.Proofs.YtbhokalnkfdekaaGreatDoor
