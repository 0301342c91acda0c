/- The law SecondCrash, walked: true, and nothing that was there has turned. -/
import Derived.Test.YtbhokalnkfdekaaGreatDoorLcra
namespace Go.Proofs.YtbhokalnkfdekaaGreatDoor
open Go.RowKit
open Go.Proofs Go.Maps

theorem feedS2 {g o0 o1 : Nat} {v0 v1 : Value} {w w' : World} (hk : Kept w w') (h : w.cell? ⟨g, o0, none⟩ = some v0 ∧ w.cell? ⟨g, o1, none⟩ = some v1) : w'.cell? ⟨g, o0, none⟩ = some v0 ∧ w'.cell? ⟨g, o1, none⟩ = some v1 := by
  obtain ⟨h0, h1⟩ := h
  have l0 := World.block_lt_of_cell? w _ h0
  exact ⟨(hk.cell l0).trans h0, (hk.cell (p := ⟨g, o1, none⟩) l0).trans h1⟩

theorem Held.k5 {R : List Int} {w0 w w' : World} {s d b m : Nat} {S : Sc} {D : Dv} {F F' : List Nat} (h : Held R w0 w s d b m S D F) (hu : Upd F w F' w') : Kept w0 w' := by
  have hz := h.k.size
  exact ⟨hu.os.trans h.k.os, hu.tape.trans h.k.tape, hu.output.trans h.k.output, Nat.le_trans hz hu.size, fun k hk => (hu.block k (by omega) (fun hm => by have := h.n k (by simp [hm]); omega)).trans (h.k.heap hk)⟩

theorem crash_live (v1 v2 : Value) (n : Int) (keep : List Bool) (l : List Fe) (R : List Int) (w : World) (hR : Roots w R) (h1 : Feds w v1 l) (h2 : Bools w v2 keep) (hl : l.length ≤ 9223372036854775807) (hk : keep.length ≤ 9223372036854775807) (hbad : ¬ (PlainP l ∧ keep.length ≤ 100 ∧ 2 ≤ n ∧ n ≤ 36)) :
    Calls Tryz.prog 3 #[v1, v2, .int .i64 n] w (LiveIs w) := by
  have hpl := plain_any v1 l w h1 hl
  obtain ⟨p2, c2, rfl⟩ : ∃ p c, v2 = .slice p keep.length c := by
    rcases h2 with ⟨rfl, p, c, e⟩ | ⟨kb, ko, c, e, _⟩
    · exact ⟨p, c, e⟩
    · exact ⟨_, c, e⟩
  have HPL := Lib.hid hpl
  have HR := Lib.hid hR
  have HB := Lib.hid hbad
  clear hpl hR hbad h1 h2
  obtain ⟨kl, hkl⟩ : ∃ kl, keep.length = kl := ⟨_, rfl⟩
  rw [hkl] at hk ⊢
  have HKL := Lib.hid hkl
  clear hkl
  go_enter Tryz.func3, Tryz.ntmps3
  go_wp2_with fail
  refine HPL.out.mono ?_
  rintro e w1 ⟨b, rfl, hb, hk1⟩
  have hlv := live_any R w1 (HR.out.kept hk1)
  have HLV := Lib.hid hlv
  have HK1 := Lib.hid hk1
  have HBP := Lib.hid hb
  clear hlv hk1 hb HPL
  cases b with
  | false =>
    go_wp2_with fail
    refine HLV.out.mono ?_
    rintro e w2 ⟨rfl, hk2⟩
    have HK2 := Lib.hid (Kept.trans HK1.out hk2)
    clear hk2
    go_wp2
    go_ret
    exact ⟨rfl, HK2.out⟩
  | true =>
    by_cases c1 : (100 : Int) < kl
    · go_wp2_with fail
      refine HLV.out.mono ?_
      rintro e w2 ⟨rfl, hk2⟩
      have HK2 := Lib.hid (Kept.trans HK1.out hk2)
      clear hk2
      go_wp2
      go_ret
      exact ⟨rfl, HK2.out⟩
    · by_cases c2' : n < 2
      · go_wp2_with fail
        refine HLV.out.mono ?_
        rintro e w2 ⟨rfl, hk2⟩
        have HK2 := Lib.hid (Kept.trans HK1.out hk2)
        clear hk2
        go_wp2
        go_ret
        exact ⟨rfl, HK2.out⟩
      · have c3 : 36 < n := by
          have h1 := HB.out
          have h2 := HBP.out.1 rfl
          have h3 := HKL.out
          rcases Int.lt_or_le 36 n with h | h
          · exact h
          · exact absurd ⟨h2, by omega, by omega, h⟩ h1
        go_wp2_with fail
        refine HLV.out.mono ?_
        rintro e w2 ⟨rfl, hk2⟩
        have HK2 := Lib.hid (Kept.trans HK1.out hk2)
        clear hk2
        go_wp2
        go_ret
        exact ⟨rfl, HK2.out⟩

set_option maxRecDepth 100000 in
set_option maxHeartbeats 4000000 in
theorem crash_main (v1 v2 : Value) (n : Nat) (keep : List Bool) (l : List Fe) (R : List Int) (w : World) (hR : Roots w R) (h1 : Feds w v1 l) (h2 : Bools w v2 keep) (hp : PlainP l) (hkl : keep.length ≤ 100) (hn2 : 2 ≤ n) (hn36 : n ≤ 36) :
    Calls Tryz.prog 3 #[v1, v2, .int .i64 n] w (LiveIs w) := by
  have hl30 := hp.le
  have hpl := plain_any v1 l w h1 (by omega)
  obtain ⟨p1, c1, rfl⟩ := h1.slice
  obtain ⟨L, hL⟩ : ∃ L, l.length = L := ⟨_, rfl⟩
  have hlim : ∀ a m cap, v2 = .slice (some a) m cap → keep ≠ [] → a.block < w.heap.size := by
    intro a m cap e hne
    rcases h2 with ⟨rfl, _⟩ | ⟨kb, ko, c, e2, hkb, _⟩
    · exact absurd rfl hne
    · rw [e] at e2; cases e2; exact hkb
  obtain ⟨p2, c2, rfl⟩ : ∃ p c, v2 = .slice p keep.length c := by
    rcases h2 with ⟨rfl, p, c, e⟩ | ⟨kb, ko, c, e, _⟩
    · exact ⟨p, c, e⟩
    · exact ⟨_, c, e⟩
  have d1 : ¬ (100 : Int) < keep.length := by omega
  have d2 : ¬ (n : Int) < 2 := by omega
  have d3 : ¬ (36 : Int) < n := by omega
  rw [hL] at hl30 hpl h1 ⊢
  have HPL := Lib.hid hpl
  have HR := Lib.hid hR
  have HP := Lib.hid hp
  have HF1 := Lib.hid h1
  have HB2 := Lib.hid h2
  have HLIM := Lib.hid hlim
  have HL := Lib.hid hL
  clear hpl hR hp h1 h2 hlim hL
  go_enter Tryz.func3, Tryz.ntmps3
  go_wp2_with fail
  refine HPL.out.mono ?_
  rintro e w1 ⟨b, rfl, hb, hk1⟩
  obtain rfl : b = true := hb.2 HP.out
  have HK1 := Lib.hid hk1
  clear hk1 hb HPL
  go_wp2_with fail
  refine (new_ok 4 40 w1 (by omega) (by omega) (by omega) (by omega)).mono ?_
  rintro e w2 ⟨d, F, rfl, hd, hF, hk2⟩
  have hrun := Run.new R (inL l) 4 40 4 n hn2 (by omega) (by omega)
  have hk12 := Kept.trans HK1.out hk2
  have hF' : ∀ k ∈ F, w.heap.size ≤ k := fun k hk => Nat.le_trans HK1.out.size (hF k hk)
  have hoc := open_c R (inL l) d (Sc.new 4 n) (Dv.new 4 40) F w2 (HR.out.kept hk12) hd (Devs.rootsF HR.out hF') hrun.inv (by simp [Sc.new])
  have HOC := Lib.hid hoc
  have HK2 := Lib.hid hk12
  have HF := Lib.hid hF'
  have HRUN := Lib.hid hrun
  clear hoc hd hF hF' hk2 hk12 hrun
  go_wp2_with fail
  refine HOC.out.mono ?_
  rintro e w3 ⟨s, b, seq, hand, rfl, hC, hq, hh, hz, hk3, hs3, hb3⟩
  obtain ⟨rfl, rfl⟩ := hz (blank_new _ _ _ _)
  have hz2 := HK2.out.size
  have hH : Held R w w3 s d b 1000 (Sc.new 4 n) (Dv.new 4 40) F := ⟨hC, Kept.trans HK2.out hk3, fun j hj => by
    simp only [List.mem_cons] at hj
    rcases hj with rfl | rfl | hj
    · omega
    · omega
    · exact HF.out j hj⟩
  have HH := Lib.hid hH
  clear hH hC hq hh hz hk3 hs3 hb3 HOC hz2
  go_wp2_with fail
  go_loopw [9] (fun i wr => ∃ (k : Nat) (F' : List Nat), k ≤ L ∧ i = .int .i64 k ∧ Held R w wr s d b (1000 + k) (feeds R (l.take k) (Sc.new 4 n, Dv.new 4 40)).1 (feeds R (l.take k) (Sc.new 4 n, Dv.new 4 40)).2 F' ∧ Run R (inL l) 4 n k (feeds R (l.take k) (Sc.new 4 n, Dv.new 4 40))) (fun i _ => L - (intOf i).toNat)
  case atStart => exact ⟨0, F, by omega, rfl, HH.out, HRUN.out⟩
  case round =>
    obtain ⟨k, F', hk, rfl, hh, hrun⟩ := hrel
    by_cases hkL : k < L
    · obtain ⟨x, hx⟩ : ∃ x, l[k]? = some x := ⟨_, List.getElem?_eq_getElem (by have := HL.out; omega)⟩
      have htk : l.take (k + 1) = l.take k ++ [x] := by rw [List.take_add_one, hx]; rfl
      obtain ⟨T, hT⟩ : ∃ T, feeds R (l.take k) (Sc.new 4 n, Dv.new 4 40) = T := ⟨_, rfl⟩
      rw [hT] at hh hrun
      have hT1 : feeds R (l.take (k + 1)) (Sc.new 4 n, Dv.new 4 40) = feedT R x T := by rw [htk, feeds_snoc, hT]
      have hkd : Kept wr wr.drew := (Below.refl _ _).drew
      have hhd := hh.keep hkd
      have hs := hrun.seq
      have hfc := feed_c R (inL l) s d b (1000 + k) T.1 T.2 F' x wr.drew hhd.c hrun.inv (by have := hrun.ws; omega) (by omega) (by omega)
      obtain ⟨g, off, rfl, hg, hcx⟩ := HF1.out.blk (by have := HL.out; omega)
      have hbase := hcx k x hx
      have hcs := feedS2 hhd.k hbase
      have HBASE := Lib.hid hbase
      have HCX := Lib.hid hcx
      clear hbase hcx
      have hrun1 := hrun.feed (x := x) (fun hg => ⟨x, List.mem_of_getElem? hx, rfl, rfl⟩)
      have k1 : (0 : Int) ≤ k := by omega
      have k2 : (k : Int) < L := by omega
      have HFC := Lib.hid hfc
      have HHD := Lib.hid hhd
      have HT1 := Lib.hid hT1
      have HRUN1 := Lib.hid hrun1
      clear hfc hhd hT1 hrun1 hh hrun hx htk hT hkd hs
      go_wp2_with fail
      go_region_held3 (fun w' => w'.cell? ⟨g, off + k * 2, none⟩ = some (.string x.1) ∧ w'.cell? ⟨g, off + k * 2 + 1, none⟩ = some (.string x.2)) (first | assumption | exact feedS2 (by assumption) (by assumption))
        ((go_at_call 13; refine HFC.out.mono ?_; rintro e w5 ⟨rfl, F5, hC5, hU5⟩; have hHx := HHD.out.step hC5 hU5; have hcsx := feedS2 hHx.k HBASE.out))
      have HHX := Lib.hid hHx
      clear hcs hcsx hHx hC5 hU5
      go_wp2
      go_roundw
      case rel =>
        refine ⟨k + 1, F5, by omega, by go_num, ?_, ?_⟩
        · rw [HT1.out]; exact HHX.out
        · rw [HT1.out]; exact HRUN1.out
      case measure => simp [intOf]; omega
    · obtain rfl : k = L := by omega
      have htl : l.take k = l := List.take_of_length_le (by have := HL.out; omega)
      rw [htl] at hh hrun
      obtain ⟨T, hT⟩ : ∃ T, feeds R l (Sc.new 4 n, Dv.new 4 40) = T := ⟨_, rfl⟩
      rw [hT] at hh hrun
      have hbw : Bools wr (.slice p2 keep.length c2) keep := by
        rcases HB2.out with h | ⟨kb, ko, c, e, hkb, hc⟩
        · exact .inl h
        · exact .inr ⟨kb, ko, c, e, Nat.lt_of_lt_of_le hkb hh.k.size, fun j hj => (hh.k.cell (p := ⟨kb, ko + j, none⟩) hkb).trans (hc j hj)⟩
      have hcr := crash_any2 d T.2 F' keep _ wr hh.c.dv hbw (by omega) (fun hne a m c e => by
        have h1 := HLIM.out a m c e hne
        intro hm
        have := hh.n a.block (by simp [hm])
        omega)
      have HCR := Lib.hid hcr
      have HH2 := Lib.hid hh
      have HRUN2 := Lib.hid hrun
      clear hcr hh hrun hbw htl hT
      go_wp2_with fail
      refine HCR.out.mono ?_
      rintro e w5 ⟨rfl, F5, hd5, hU5⟩
      have hk5 : Kept w w5 := (HH2.out.k5 hU5)
      have hF5 : ∀ j ∈ F5, w.heap.size ≤ j := fun j hj => by
        rcases hU5.new j hj with h1 | h1
        · exact HH2.out.n j (by simp [h1])
        · have := HH2.out.k.size; omega
      obtain ⟨⟨f0, n0, M0, sq0, h0⟩, e1, e2, e3, hinv⟩ := HRUN2.out.crash keep
      simp only at e1 e2 e3
      subst e1
      have e2' := e2.symm
      subst e2'
      clear e2
      have hoc := open_c R (inL l) d ⟨4, n, M0, sq0, h0⟩ (T.2.crash keep) F5 w5 (HR.out.kept hk5) hd5 (Devs.rootsF HR.out hF5) hinv (by show sq0 ≤ 900000; omega)
      simp only at hoc
      have HOC := Lib.hid hoc
      have HK5 := Lib.hid hk5
      have HINV := Lib.hid hinv
      clear hoc hk5 hF5 hinv hd5 hU5 e3 HCR
      go_wp2_with fail
      refine HOC.out.mono ?_
      rintro e w6 ⟨s2, b2, seq, hand, rfl, hC, hq, hh, hz, hk6, hs6, hb6⟩
      have HC6 := Lib.hid hC
      have HK6 := Lib.hid (Kept.trans HK5.out hk6)
      clear hC hq hh hz hk6 hs6 hb6 HOC
      go_wp2_with fail
      go_loopw [11] (fun i wq => ∃ j : Nat, j ≤ k ∧ i = .int .i64 j ∧ Kept w6 wq) (fun i _ => k - (intOf i).toNat)
      case atStart => exact ⟨0, by omega, rfl, Kept.refl _⟩
      case round =>
        obtain ⟨j, hj, rfl, hkq⟩ := hrel
        by_cases hjk : j < k
        · obtain ⟨x, hx⟩ : ∃ x, l[j]? = some x := ⟨_, List.getElem?_eq_getElem (by have := HL.out; omega)⟩
          obtain ⟨g, off, rfl, hg, hcx⟩ := HF1.out.blk (by have := HL.out; omega)
          have hbase := hcx j x hx
          have hfk := find_k R (inL l) s2 d b2 1000 seq hand ⟨4, n, M0, sq0, h0⟩ _ F5 x.1 _ (HC6.out.kept hkq) HINV.out (by omega)
          obtain ⟨c0, c1'⟩ := feedS2 (Kept.trans HK6.out hkq) hbase
          have k1 : (0 : Int) ≤ j := by omega
          have k2 : (j : Int) < k := by omega
          have HFK := Lib.hid hfk
          have HX := Lib.hid hx
          have HKQ := Lib.hid hkq
          have HBASE := Lib.hid hbase
          clear hfk hx hkq hcx hbase
          go_wp2_with fail
          refine HFK.out.mono ?_
          rintro e w7 ⟨t, is, rfl, hf, hk7⟩
          obtain ⟨c0, c1'⟩ := feedS2 (Kept.trans HK6.out (Kept.trans HKQ.out hk7)) HBASE.out
          have HK7 := Lib.hid (Kept.trans HKQ.out hk7)
          rcases finds_plain HP.out HX.out hf with ⟨rfl, rfl⟩ | ⟨rfl, rfl⟩
          all_goals
            clear hf hk7 HFK
            go_wp2
            go_roundw
            case rel => exact ⟨j + 1, by omega, by go_num, HK7.out⟩
            case measure => simp [intOf]; omega
        · obtain rfl : j = k := by omega
          have hC7 := HC6.out.kept hkq
          have hen := entries_any s2 d b2 1000 _ _ hC7.sc (by omega)
          have HEN := Lib.hid hen
          have HC7 := Lib.hid hC7
          have HK7 := Lib.hid (Kept.trans HK6.out hkq)
          clear hen hC7 hkq
          go_wp2_with fail
          refine HEN.out.mono ?_
          rintro e w8 ⟨v, rfl, hrow, hk8⟩
          obtain ⟨E, hE⟩ : ∃ E, (entriesOf (⟨4, n, M0, seq, hand⟩ : Sc) (placesOf (⟨4, n, M0, seq, hand⟩ : Sc))).length = E := ⟨_, rfl⟩
          obtain ⟨pe, ce, rfl⟩ := hrow.len hE
          have hle := entriesOf_le (⟨4, n, M0, seq, hand⟩ : Sc)
          rw [hE] at hle
          have hle' : (E : Int) ≤ roomN n := by simp only at hle; omega
          have hC8 := HC7.out.kept hk8
          have hrm := room_any s2 n w8 (by omega) (by rw [hC8.sc.c2])
          have HRM := Lib.hid hrm
          have HK8 := Lib.hid (Kept.trans HK7.out hk8)
          have hE1 : (E : Int) ≤ 1000 := by unfold roomN at hle'; omega
          clear hrm hC8 hrow hk8 hE hle HEN
          go_wp2_with fail
          refine HRM.out.mono ?_
          rintro e w9 ⟨rfl, rfl⟩
          have hlv := live_any R w8.drew (HR.out.kept (Kept.trans HK8.out (Below.refl _ _).drew))
          have HLV := Lib.hid hlv
          clear hlv HRM
          go_wp2_with fail
          refine HLV.out.mono ?_
          rintro e w9 ⟨rfl, hk9⟩
          have HK9 := Lib.hid (Kept.trans HK8.out (Kept.trans (Below.refl _ _).drew hk9))
          clear hk9 HLV
          go_wp2
          go_ret
          exact ⟨rfl, HK9.out⟩
end Go.Proofs.YtbhokalnkfdekaaGreatDoor
