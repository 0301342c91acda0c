/- A cache that is well: what Feed, Find and Open do. -/
import Derived.Test.YtbhokalnkfdekaaDoorLawa
import Derived.Test.YtbhokalnkfdekaaDoorDevg
namespace Go.Proofs.YtbhokalnkfdekaaDoor
open Go.RowKit
open Go.Proofs Go.Maps

theorem Cach.mono {R : List Int} {w : World} {s d b m m' : Nat} {S : Sc} {D : Dv} {F : List Nat} (h : Cach R w s d b m S D F) (hm : m ≤ m') : Cach R w s d b m' S D F :=
  ⟨⟨h.sc.blk, h.sc.mp.mono hm, h.sc.okn, h.sc.okf, h.sc.okm⟩, h.dv, h.rt, h.sF, h.rF, h.sR⟩

noncomputable def feedT (R : List Int) (x : Fe) (T : Sc × Dv) : Sc × Dv :=
  if goodFeed x.1 x.2 then (if (findP T.1 x.1).isSome then T else feedN R x.1 x.2 T) else T

theorem feed_c (R : List Int) (H : ByteArray → ByteArray → Prop) (s d b m : Nat) (S : Sc) (D : Dv) (F : List Nat) (x : Fe) (w : World) (h : Cach R w s d b m S D F) (hi : Inv R H S D) (hw : D.ws.length ≤ 900) (hm : m ≤ 900000) (hseq : S.seq ≤ 900000) :
    Calls Tryd.prog 9 #[.pointer (some ⟨s, 0, none⟩), .string x.1, .string x.2] w fun e w' => e = .returned (.bool (decide (goodFeed x.1 x.2))) ∧ ∃ F', Cach R w' s d b (m + 1) (feedT R x (S, D)).1 (feedT R x (S, D)).2 F' ∧ Upd (s :: b :: F) w (s :: b :: F') w' := by
  by_cases hg : goodFeed x.1 x.2
  · unfold feedT
    rw [if_pos hg, decide_eq_true hg]
    cases hf : findP S x.1 with
    | some p =>
      simp only [Option.isSome_some, if_true]
      refine (feedknown_any s d b m p S D F x.1 x.2 w h.sc h.dv (by omega) hg hi.fit.lost hf).mono ?_
      rintro e w' ⟨rfl, hk⟩
      exact ⟨rfl, F, (h.kept hk).mono (by omega), hk.upd⟩
    | none =>
      simp only [Option.isSome_none, Bool.false_eq_true, if_false]
      exact feednew_any R s d b m S D F x.1 x.2 w h hi.fit hw hm hseq hi.hand hg hf
  · unfold feedT
    rw [if_neg hg, decide_eq_false hg]
    refine (feedbad_any s d b m S D F x.1 x.2 w h.sc h.dv hg).mono ?_
    rintro e w' ⟨rfl, hk⟩
    exact ⟨rfl, F, (h.kept hk).mono (by omega), hk.upd⟩

theorem Inv.feedT {R : List Int} {H : ByteArray → ByteArray → Prop} {S : Sc} {D : Dv} {x : Fe} (h : Inv R H S D) (hw : D.ws.length ≤ 900) (hH : goodFeed x.1 x.2 → H x.1 x.2) : Inv R H (feedT R x (S, D)).1 (feedT R x (S, D)).2 ∧ (feedT R x (S, D)).2.ws.length ≤ 900 ∧ (feedT R x (S, D)).1.seq ≤ S.seq + 2 ∧ (feedT R x (S, D)).1.n = S.n ∧ (feedT R x (S, D)).1.from' = S.from' := by
  unfold Go.Proofs.YtbhokalnkfdekaaDoor.feedT
  split
  · rename_i hg
    split
    · exact ⟨h, hw, by simp, rfl, rfl⟩
    · refine ⟨h.feed hw _ _ hg (hH hg), Nat.le_trans (feedN_ws _ _) (by omega), ?_, ?_, ?_⟩
      · rw [feedN_eq]; simp
      · rw [feedN_eq]
      · rw [feedN_eq]
  · exact ⟨h, hw, by simp, rfl, rfl⟩

theorem findP_none {S : Sc} {key : ByteArray} (h : findP S key = none) (hat : Ats S) : ∀ p x, S.M p = some x → x.key ≠ key := by
  intro p x hx hk
  have h1 := List.find?_eq_none.1 h p (List.mem_filter.2 ⟨List.mem_range.2 (hat p x hx).1, by rw [hx]; rfl⟩)
  simp [hasKey, hx, hk] at h1

/-- what Find answers of a cache that is well -/
inductive Finds (H : ByteArray → ByteArray → Prop) (S : Sc) (key : ByteArray) : ByteArray → Bool → Prop
  | no (h : ∀ p x, S.M p = some x → x.key ≠ key) : Finds H S key ⟨#[]⟩ false
  | yes (t : ByteArray) (p : Nat) (x : En) (hx : S.M p = some x) (hk : x.key = key) (hH : H key t) : Finds H S key t true

theorem find_k (R : List Int) (H : ByteArray → ByteArray → Prop) (s d b m q' h' : Nat) (S : Sc) (D : Dv) (F : List Nat) (key : ByteArray) (w : World) (h : Cach R w s d b m { S with seq := q', hand := h' } D F) (hi : Inv R H S D) (hm : m ≤ 1000000) :
    Calls Tryd.prog 11 #[.pointer (some ⟨s, 0, none⟩), .string key] w fun e w' => ∃ t is, e = .returned (.tuple #[.string t, .bool is]) ∧ Finds H S key t is ∧ Kept w w' := by
  cases hf : findP S key with
  | none =>
    refine (findno_any s d b m _ key w h.sc hm hf).mono ?_
    rintro e w' ⟨rfl, hk⟩
    exact ⟨_, _, rfl, .no (findP_none hf hi.ats), hk⟩
  | some p =>
    obtain ⟨x, hx, hxk⟩ := find_some hf
    obtain ⟨h1, h2, h3⟩ := hi.ats p x hx
    obtain ⟨d1, d2, d3⟩ := hi.data p x hx
    refine (findok_any R s d b m p _ D F key x w h.rt h.sc h.dv hm hf hx (by rw [h3]; exact hi.vat h1) hi.fit.lost (by have := hi.fit.ws; omega) d1 d2).mono ?_
    rintro e w' ⟨rfl, hk⟩
    exact ⟨_, _, rfl, .yes _ p x hx hxk (by rw [← hxk]; exact d3), hk⟩
theorem find_c (R : List Int) (H : ByteArray → ByteArray → Prop) (s d b m : Nat) (S : Sc) (D : Dv) (F : List Nat) (key : ByteArray) (w : World) (h : Cach R w s d b m S D F) (hi : Inv R H S D) (hm : m ≤ 1000000) :
    Calls Tryd.prog 11 #[.pointer (some ⟨s, 0, none⟩), .string key] w fun e w' => ∃ t is, e = .returned (.tuple #[.string t, .bool is]) ∧ Finds H S key t is ∧ Kept w w' :=
  find_k R H s d b m S.seq S.hand S D F key w h hi hm

/-- a fresh cache -/
def Sc.new (f n : Nat) : Sc := { from' := f, n := n, M := fun _ => none, seq := 0, hand := 0 }
theorem new_get (a b : Nat) (dev at' : Int) : (Dv.new a b).get dev at' = ⟨#[]⟩ := by
  rw [get_nows rfl]
  unfold Dv.sec Dv.new
  split
  all_goals
    simp only [List.getD_eq_getElem?_getD, List.getElem?_replicate]
    split <;> rfl
theorem groupE_none {S : Sc} (h : ∀ p, S.M p = none) (g : Nat) (l : List (Fin 7)) : groupE S g l = [] := by
  unfold groupE
  rw [List.filterMap_eq_nil_iff]
  intro i _
  exact h _
theorem Inv.new (R : List Int) (H : ByteArray → ByteArray → Prop) (a b f n : Nat) (hn : 2 ≤ n) (hr : f + n ≤ b) (hb : b ≤ 512) : Inv R H (Sc.new f n) (Dv.new a b) := by
  refine ⟨⟨hn, by simp [Dv.new]; exact hr, by simp [Dv.new]; exact hb, rfl, by simp [Dv.new]⟩, (by intro x hx; cases hx), (by show 0 < roomN n; unfold roomN; omega), (by intro p x hx; cases hx), fun g _ => .inl ⟨by rw [new_get]; decide, groupE_none (fun _ => rfl) _ _⟩, (by intro p x hx; cases hx)⟩
theorem blank_new (a b f n : Nat) : Blank (Dv.new a b) f n := fun g _ => by rw [new_get]; decide

theorem Devs.rootsF {w0 : World} {F : List Nat} {R : List Int} (hR : Roots w0 R) (hF : ∀ k ∈ F, w0.heap.size ≤ k) : 0 ∉ F := fun hm => by
  have := hF _ hm
  have := hR.lt
  omega

/-- a cache, opened of devices whose logs tell of S -/
theorem open_c (R : List Int) (H : ByteArray → ByteArray → Prop) (d : Nat) (S : Sc) (D : Dv) (F : List Nat) (w : World) (hR : Roots w R) (hd : Devs w d D F) (hrF : 0 ∉ F) (hi : Inv R H S D) (hseq : S.seq ≤ 900000) :
    Calls Tryd.prog 8 #[.pointer (some ⟨d, 0, none⟩), .int .i64 S.from', .int .i64 S.n] w fun e w' => ∃ s b seq hand, e = .returned (.pointer (some ⟨s, 0, none⟩)) ∧ Cach R w' s d b 1000 { S with seq := seq, hand := hand } D F ∧ seq ≤ S.seq ∧ hand < roomN S.n ∧ ZeroIf (Blank D S.from' S.n) seq hand ∧ Kept w w' ∧ w.heap.size ≤ s ∧ w.heap.size ≤ b :=
  open_ok R d S.seq S D F w hR hd hrF hi.fit.two hi.fit.reg hi.fit.l1 (by have := hi.fit.ws; omega) hseq hi.ats hi.logs

/-- with another number, and another hand, it finds as it did -/
theorem Finds.cast {H : ByteArray → ByteArray → Prop} {S : Sc} {key t : ByteArray} {is : Bool} {q h : Nat} (hf : Finds H { S with seq := q, hand := h } key t is) : Finds H S key t is := by
  cases hf with
  | no h => exact .no h
  | yes t p x hx hk hH => exact .yes _ p x hx hk hH

/-- entries that lie in memory of the call's own -/
structure Held (R : List Int) (w0 w : World) (s d b m : Nat) (S : Sc) (D : Dv) (F : List Nat) : Prop where
  c : Cach R w s d b m S D F
  k : Kept w0 w
  n : ∀ j ∈ s :: b :: F, w0.heap.size ≤ j
theorem Held.step {R : List Int} {w0 w w' : World} {s d b m m' : Nat} {S S' : Sc} {D D' : Dv} {F F' : List Nat} (h : Held R w0 w s d b m S D F) (hc : Cach R w' s d b m' S' D' F') (hu : Upd (s :: b :: F) w (s :: b :: F') w') : Held R w0 w' s d b m' S' D' F' := by
  have hz := h.k.size
  refine ⟨hc, ⟨hu.os.trans h.k.os, hu.tape.trans h.k.tape, hu.output.trans h.k.output, Nat.le_trans hz hu.size, fun k hk => (hu.block k (by omega) (fun hm => by have := h.n k hm; omega)).trans (h.k.heap hk)⟩, fun j hj => ?_⟩
  rcases hu.new j hj with h1 | h1
  · exact h.n j h1
  · omega
theorem Held.keep {R : List Int} {w0 w w' : World} {s d b m : Nat} {S : Sc} {D : Dv} {F : List Nat} (h : Held R w0 w s d b m S D F) (hk : Kept w w') : Held R w0 w' s d b m S D F := h.step (h.c.kept hk) hk.upd
end Go.Proofs.YtbhokalnkfdekaaDoor
