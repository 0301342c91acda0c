/- The laws' helper live of layer 14: some answers that the document gives. -/
import Derived.Test.YtbhokalnkfdekaaDoorLawb
namespace Go.Proofs.YtbhokalnkfdekaaDoor
open Go.RowKit
open Go.Proofs Go.Maps

def kK : ByteArray := ⟨#[107]⟩
def kL : ByteArray := ⟨#[108]⟩
def hello : ByteArray := ⟨#[104, 101, 108, 108, 111]⟩
def other : ByteArray := ⟨#[111, 116, 104, 101, 114]⟩
def spoilt : ByteArray := ⟨#[104, 101, 108, 108, 79, 33]⟩
def liveH (a t : ByteArray) : Prop := a = kK ∧ t = hello
noncomputable def liveT (R : List Int) : Sc × Dv := feedN R kK hello (Sc.new 4 10, Dv.new 4 20)
theorem live_M (R : List Int) (p : Nat) : (liveT R).1.M p = if p = 0 then some ⟨kK, sumOf R hello, hello.size, 5⟩ else none := by
  unfold liveT
  rw [feedN_eq]
  simp only [feM, setM, dropM, Sc.new, atOf]
  by_cases hp : p = 0 <;> simp [hp]
theorem liveT_n (R : List Int) : (liveT R).1.n = 10 ∧ (liveT R).1.from' = 4 ∧ (liveT R).1.seq = 2 := by
  unfold liveT
  rw [feedN_eq]
  exact ⟨rfl, rfl, rfl⟩
theorem live_s1 (R : List Int) : (liveT R).2.s1.length = 20 := by
  unfold liveT
  rw [feedN_eq]
  simp only [fd5, fd4, fd1]
  have e : ∀ (D : Dv) (a b : Int) (t : ByteArray), (D.write a b t).s1.length = D.s1.length := fun _ _ _ _ => rfl
  have f : ∀ D : Dv, D.flush.s1.length = D.s1.length := fun D => (Dv.puts_shape D.ws D).2.1
  rw [e, f, e, f, e]
  simp [Dv.new]
theorem live_new (R : List Int) : feedT R (kK, hello) (Sc.new 4 10, Dv.new 4 20) = liveT R := by
  unfold feedT
  rw [if_pos (by decide)]
  have : findP (Sc.new 4 10) kK = none := by
    cases hf : findP (Sc.new 4 10) kK with
    | none => rfl
    | some p => obtain ⟨x, hx, _⟩ := find_some hf; cases hx
  simp only [this, Option.isSome_none, Bool.false_eq_true, if_false]
  rfl
theorem live_inv (R : List Int) : Inv R liveH (liveT R).1 (liveT R).2 :=
  (Inv.new R liveH 4 20 4 10 (by omega) (by omega) (by omega)).feed (by simp [Dv.new]) kK hello (by decide) ⟨rfl, rfl⟩
theorem live_find {R : List Int} {S : Sc} (hM : S.M = (liveT R).1.M) (hn : S.n = 10) : findP S kK = some 0 := by
  cases hf : findP S kK with
  | none =>
    have h1 := List.find?_eq_none.1 hf 0 (List.mem_filter.2 ⟨List.mem_range.2 (by rw [hn]; decide), by rw [hM, live_M]; rfl⟩)
    simp [hasKey, hM, live_M] at h1
  | some p =>
    obtain ⟨x, hx, _⟩ := find_some hf
    rw [hM, live_M] at hx
    split at hx
    · rename_i e; rw [e]
    · cases hx
theorem live_yes {R : List Int} {S : Sc} {t : ByteArray} {is : Bool} (hM : S.M = (liveT R).1.M) (h : Finds liveH S kK t is) : t = ⟨#[104, 101, 108, 108, 111]⟩ ∧ is = true := by
  cases h with
  | no h => exact absurd rfl (h 0 _ (by rw [hM, live_M]; rfl))
  | yes t p x hx hk hH => exact ⟨hH.2, rfl⟩
theorem live_no {R : List Int} {S : Sc} {t : ByteArray} {is : Bool} (hM : S.M = (liveT R).1.M) (h : Finds liveH S kL t is) : t = ⟨#[]⟩ ∧ is = false := by
  cases h with
  | no h => exact ⟨rfl, rfl⟩
  | yes t p x hx hk hH => exact absurd hH.1 (by decide)

theorem live_len {R : List Int} {S : Sc} (hM : S.M = (liveT R).1.M) (hn : S.n = 10) : (entriesOf S (placesOf S)).length = 1 := by
  have h1 : placesOf S = [0] := by
    unfold placesOf
    rw [hn, show roomN 10 = 8 from rfl, hM]
    simp [List.range_succ, live_M]
  rw [h1]
  simp [entriesOf, hM, live_M]
theorem live_len0 {R : List Int} {S : Sc} (hM : S.M = dropM (liveT R).1.M 0) : (entriesOf S (placesOf S)).length = 0 := by
  have h1 : ∀ p, S.M p = none := fun p => by
    rw [hM]
    unfold dropM
    split
    · rfl
    · rename_i h; rw [live_M, if_neg h]
  simp [entriesOf, h1]
theorem Row.len {w : World} {base n : Nat} {v : Value} {l : List En} (h : Row w base v l) (hl : l.length = n) : ∃ p c, v = .slice p n c := by
  obtain ⟨p, c, e⟩ := h.slice
  exact ⟨p, c, by rw [e, hl]⟩

def LiveIs (w : World) (e : Ending) (w' : World) : Prop := e = .returned (.bool true) ∧ Kept w w'

set_option maxRecDepth 100000 in
set_option maxHeartbeats 4000000 in
theorem live_any (R : List Int) (w : World) (hR : Roots w R) : Calls Tryd.prog 6 #[] w (LiveIs w) := by
  have HR := Lib.hid hR
  clear hR
  go_enter Tryd.func6, Tryd.ntmps6
  go_wp2_with fail
  refine (new_ok 4 20 w (by omega) (by omega) (by omega) (by omega)).mono ?_
  rintro e w1 ⟨d, F, rfl, hd, hF, hk1⟩
  have hoc := open_c R liveH d (Sc.new 4 10) (Dv.new 4 20) F w1 (HR.out.kept hk1) hd (Devs.rootsF HR.out hF) (Inv.new R liveH 4 20 4 10 (by omega) (by omega) (by omega)) (by decide)
  have HOC := Lib.hid hoc
  have HK1 := Lib.hid hk1
  have HF := Lib.hid hF
  clear hoc hd hF hk1
  go_wp2_with fail
  refine HOC.out.mono ?_
  rintro e w2 ⟨s, b, seq, hand, rfl, hC, hq, hh, hz, hk2, hs2, hb2⟩
  obtain ⟨rfl, rfl⟩ := hz (blank_new _ _ _ _)
  have hH : Held R w w2 s d b 1000 (Sc.new 4 10) (Dv.new 4 20) F := ⟨hC, Kept.trans HK1.out hk2, fun j hj => by
    have := HK1.out.size
    simp only [List.mem_cons] at hj
    rcases hj with rfl | rfl | hj
    · omega
    · omega
    · exact HF.out j hj⟩
  have hfc := feed_c R liveH s d b 1000 (Sc.new 4 10) (Dv.new 4 20) F (kK, hello) w2 hH.c (Inv.new R liveH 4 20 4 10 (by omega) (by omega) (by omega)) (by simp [Dv.new]) (by omega) (by decide)
  rw [live_new, show decide (goodFeed (kK, hello).1 (kK, hello).2) = true by decide] at hfc
  have HFC := Lib.hid hfc
  have HH := Lib.hid hH
  clear hfc hH hC hq hh hz hk2 hs2 hb2 HOC
  go_wp2_with fail
  refine HFC.out.mono ?_
  rintro e w3 ⟨rfl, F3, hC3, hU3⟩
  have hH3 := HH.out.step hC3 hU3
  have hfk := feedknown_any s d b 1001 0 (liveT R).1 (liveT R).2 F3 kK other w3 hC3.sc hC3.dv (by omega) (by decide) (live_inv R).fit.lost (live_find rfl (liveT_n R).1)
  have HFK := Lib.hid hfk
  have HH3 := Lib.hid hH3
  clear hfk hH3 hC3 hU3 HFC
  go_wp2_with fail
  refine HFK.out.mono ?_
  rintro e w4 ⟨rfl, hk4⟩
  have hH4 := HH3.out.keep hk4
  have hf1 := find_c R liveH s d b 1001 (liveT R).1 (liveT R).2 F3 kK w4 hH4.c (live_inv R) (by omega)
  have HF1 := Lib.hid hf1
  have HH4 := Lib.hid hH4
  clear hf1 hH4 hk4 HFK
  go_wp2_with fail
  refine HF1.out.mono ?_
  rintro e w5 ⟨t, is, rfl, hf, hk5⟩
  obtain ⟨rfl, rfl⟩ := live_yes rfl hf
  have hH5 := HH4.out.keep hk5
  have hf2 := find_c R liveH s d b 1001 (liveT R).1 (liveT R).2 F3 kL w5 hH5.c (live_inv R) (by omega)
  have HF2 := Lib.hid hf2
  have HH5 := Lib.hid hH5
  clear hf2 hH5 hk5 hf HF1
  go_wp2_with fail
  refine HF2.out.mono ?_
  rintro e w6 ⟨t, is, rfl, hf, hk6⟩
  obtain ⟨rfl, rfl⟩ := live_no rfl hf
  have hH6 := HH5.out.keep hk6
  have hfl := flush_c R s d b 1001 (liveT R).1 (liveT R).2 F3 w6 hH6.c
  have HFL := Lib.hid hfl
  have HH6 := Lib.hid hH6
  clear hfl hH6 hk6 hf HF2
  go_wp2_with fail
  refine HFL.out.mono ?_
  rintro e w7 ⟨rfl, F7, hC7, hU7⟩
  have hH7 := HH6.out.step hC7 hU7
  have hoc := open_c R liveH d (liveT R).1 (liveT R).2.flush F7 w7 hC7.rt hC7.dv hC7.rF (live_inv R).flush (by rw [(liveT_n R).2.2]; decide)
  rw [(liveT_n R).1, (liveT_n R).2.1] at hoc
  have HOC := Lib.hid hoc
  have HH7 := Lib.hid hH7
  clear hoc hH7 hC7 hU7 HFL
  go_wp2_with fail
  refine HOC.out.mono ?_
  rintro e w8 ⟨s2, b2, seq, hand, rfl, hC8, hq, hh, hz, hk8, hs8, hb8⟩
  have hH8 := HH7.out.keep hk8
  have hf3 := find_k R liveH s2 d b2 1000 seq hand (liveT R).1 (liveT R).2.flush F7 kK w8 hC8 (live_inv R).flush (by omega)
  have HF3 := Lib.hid hf3
  have HH8 := Lib.hid hH8
  have HC8 := Lib.hid hC8
  have hl8 := HH7.out.c.lt
  have hsb : s < s2 ∧ s < b2 ∧ b < s2 ∧ b < b2 := by
    have h1 := hl8 s (by simp)
    have h2 := hl8 b (by simp)
    omega
  clear hf3 hH8 hC8 hq hh hz hk8 hs8 hb8 hl8 HOC
  go_wp2_with fail
  refine HF3.out.mono ?_
  rintro e w9 ⟨t, is, rfl, hf, hk9⟩
  obtain ⟨rfl, rfl⟩ := live_yes rfl hf
  have hC9 := HC8.out.kept hk9
  have hH9 := HH8.out.keep hk9
  have hfit := (live_inv R).flush.fit
  have hv5 : (liveT R).2.flush.valid 1 5 := hfit.valid (by omega) (by rw [(liveT_n R).1, (liveT_n R).2.1]; omega)
  have hsp := spoil_empty d (liveT R).2.flush F7 1 5 spoilt w9 hC9.dv (by rw [Dv.may, if_pos ⟨hv5, by decide⟩, hfit.lost]; rfl) rfl
  have HSP := Lib.hid hsp
  have HH9 := Lib.hid hH9
  have HC9 := Lib.hid hC9
  have HV5 := Lib.hid hv5
  have HFIT := Lib.hid hfit
  clear hsp hH9 hC9 hv5 hfit hk9 hf HF3
  go_wp2_with fail
  refine HSP.out.mono ?_
  rintro e w10 ⟨rfl, hd10, hU10⟩
  obtain ⟨D8, hD8⟩ : ∃ D8, (liveT R).2.flush.put (1, 5, spoilt) = D8 := ⟨_, rfl⟩
  rw [hD8] at hd10
  have hC10 := HC9.out.devs hd10 hU10
  have hH10 := HH9.out.c.devs hd10 hU10
  have hget : D8.get 1 5 = spoilt := by
    have h1 : D8.ws = [] := by rw [← hD8, Dv.put_ws]; rfl
    rw [get_nows h1, ← hD8, sec_put _ _ HV5.out 1 5 (.inr rfl) (by omega)]
    rfl
  have hsh := (liveT R).2.flush.put_shape (1, 5, spoilt)
  rw [hD8] at hsh
  have hmay : D8.may 1 5 0 = 0 := by
    have h1 : D8.valid 1 5 := by rw [← hD8]; exact (valid_put _ _ _ _).2 HV5.out
    have h2 : D8.lost 1 = false := by simp [Dv.lost, hsh.2.2.2.1, HFIT.out.l1]
    rw [Dv.may, if_pos ⟨h1, by omega⟩, h2]; rfl
  have hws8 : D8.ws.length ≤ 1000000000 := by rw [hsh.2.2.2.2]; simp [Dv.flush]
  have hs20 : D8.s1.length = 20 := by
    rw [hsh.2.1]
    have h1 := (Dv.puts_shape (liveT R).2.ws (liveT R).2).2.1
    show ((liveT R).2.puts (liveT R).2.ws).s1.length = 20
    rw [h1]
    exact live_s1 R
  have hfd := findlen_any R s2 d b2 1000 0 { (liveT R).1 with seq := seq, hand := hand } D8 F7 kK ⟨kK, sumOf R hello, hello.size, 5⟩ w10 hC10 (by omega) (live_find rfl (liveT_n R).1) (by show (liveT R).1.M 0 = _; rw [live_M]; rfl) hmay hws8 (by show (D8.get 1 5).size ≠ hello.size; rw [hget]; decide)
  have HFD := Lib.hid hfd
  have HH10 := Lib.hid hH10
  have HC10 := Lib.hid hC10
  have HS20 := Lib.hid hs20
  have hkk : Kept w w10 := by
    have h1 := HH9.out
    have h2 := h1.step hH10 (hU10.wide2 s b)
    exact h2.k
  have HKK := Lib.hid hkk
  clear hfd hH10 hC10 hs20 hD8 hget hsh hmay hws8 hd10 hU10 hkk HSP
  go_wp2_with fail
  refine HFD.out.mono ?_
  rintro e w11 ⟨rfl, hC11, hU11⟩
  have hz10 := HKK.out.size
  have hkk : Kept w w11 := ⟨hU11.os.trans HKK.out.os, hU11.tape.trans HKK.out.tape, hU11.output.trans HKK.out.output, Nat.le_trans hz10 hU11.size, fun k hk => (hU11.block k (by omega) (by
    have := HH9.out.n s (by simp)
    simp; omega)).trans (HKK.out.heap hk)⟩
  have hlt := HH10.out.lt
  have hS11 : IsSc w11 s d b 1001 (liveT R).1 := HH10.out.sc.heap (hU11.block s (hlt s (by simp)) (by simp; omega)) (hU11.block b (hlt b (by simp)) (by simp; omega))
  have HS11 := Lib.hid hS11
  have HC11 := Lib.hid hC11
  have HKK11 := Lib.hid hkk
  have hrm := room_any s 10 w11 (by omega) (by rw [hS11.c2, (liveT_n R).1])
  have HRM := Lib.hid hrm
  clear hS11 hC11 hkk hrm hU11 hz10 hlt HFD
  go_wp2_with fail
  refine HRM.out.mono ?_
  rintro e w12 ⟨rfl, rfl⟩
  rw [show ((roomN 10 : Nat) : Int) = 8 from rfl]
  have hk12 : Kept w11 w11.drew := (Below.refl _ _).drew
  have hen := entries_any s d b 1001 (liveT R).1 w11.drew (HS11.out.kept hk12) (by omega)
  have HEN := Lib.hid hen
  clear hen
  go_wp2_with fail
  refine HEN.out.mono ?_
  rintro e w13 ⟨v, rfl, hrow, hk13⟩
  obtain ⟨p, c, rfl⟩ := hrow.len (live_len rfl (liveT_n R).1)
  have hk13' := Kept.trans hk12 hk13
  have hen := entries_any s2 d b2 1000 _ w13 (HC11.out.kept hk13').sc (by omega)
  have HEN2 := Lib.hid hen
  have HK13 := Lib.hid hk13'
  clear hen hrow hk13 hk13' hk12 HEN HRM
  go_wp2_with fail
  refine HEN2.out.mono ?_
  rintro e w14 ⟨v, rfl, hrow, hk14⟩
  obtain ⟨p2, c2, rfl⟩ := hrow.len (live_len0 rfl)
  have hk14' := Kept.trans HK13.out hk14
  have hob := openbad_any d _ F7 4 17 w14 (HC11.out.kept hk14').dv (by omega) (by omega) (.inr (by rw [HS20.out]; omega))
  have HOB := Lib.hid hob
  have HK14 := Lib.hid hk14'
  clear hob hrow hk14 hk14' HEN2
  go_wp2_with fail
  refine HOB.out.mono ?_
  rintro e w15 ⟨rfl, rfl⟩
  go_wp2_with fail
  refine (opennil_any 0 4 _).mono ?_
  rintro e w16 ⟨rfl, rfl⟩
  have hfb := feedbad_any s d b 1001 (liveT R).1 _ F7 ⟨#[]⟩ ⟨#[120]⟩ w16 (HS11.out.kept HK14.out) (HC11.out.kept HK14.out).dv (by decide)
  go_wp2_with fail
  refine hfb.mono ?_
  rintro e w17 ⟨rfl, hk17⟩
  have HK17 := Lib.hid (Kept.trans HKK11.out (Kept.trans HK14.out hk17))
  clear hfb hk17
  go_wp2
  go_ret
  exact ⟨rfl, HK17.out⟩
end Go.Proofs.YtbhokalnkfdekaaDoor
