/- The law SecondLately, walked. -/
import Derived.Test.YtbhokalnkfdekaaDoorLawd
import Derived.Test.YtbhokalnkfdekaaDoorLive
namespace Go.Proofs.YtbhokalnkfdekaaDoor
open Go.RowKit
open Go.Proofs Go.Maps

theorem feedS2 {g o0 o1 : Nat} {v0 v1 : Value} {w w' : World} (hk : Kept w w') (h : w.cell? ⟨g, o0, none⟩ = some v0 ∧ w.cell? ⟨g, o1, none⟩ = some v1) : w'.cell? ⟨g, o0, none⟩ = some v0 ∧ w'.cell? ⟨g, o1, none⟩ = some v1 := by
  obtain ⟨h0, h1⟩ := h
  have l0 := World.block_lt_of_cell? w _ h0
  exact ⟨(hk.cell l0).trans h0, (hk.cell (p := ⟨g, o1, none⟩) l0).trans h1⟩
theorem Held.k5 {R : List Int} {w0 w w' : World} {s d b m : Nat} {S : Sc} {D : Dv} {F F' : List Nat} (h : Held R w0 w s d b m S D F) (hu : Upd F w F' w') : Kept w0 w' := by
  have hz := h.k.size
  exact ⟨hu.os.trans h.k.os, hu.tape.trans h.k.tape, hu.output.trans h.k.output, Nat.le_trans hz hu.size, fun k hk => (hu.block k (by omega) (fun hm => by have := h.n k (by simp [hm]); omega)).trans (h.k.heap hk)⟩

theorem lately_live (v1 : Value) (n : Int) (l : List Fe) (R : List Int) (w : World) (hR : Roots w R) (h1 : Feds w v1 l) (hl : l.length ≤ 9223372036854775807) (hbad : ¬ (PlainP l ∧ 2 ≤ n ∧ n ≤ 36)) :
    Calls Tryd.prog 3 #[v1, .int .i64 n] w (LiveIs w) := by
  have hpl := plain_any v1 l w h1 hl
  have HPL := Lib.hid hpl
  have HR := Lib.hid hR
  have HB := Lib.hid hbad
  clear hpl hR hbad h1
  go_enter Tryd.func3, Tryd.ntmps3
  go_wp2_with fail
  refine HPL.out.mono ?_
  rintro e w1 ⟨b, rfl, hb, hk1⟩
  have hlv := live_any R w1 (HR.out.kept hk1)
  have HLV := Lib.hid hlv
  have HK1 := Lib.hid hk1
  have HBP := Lib.hid hb
  clear hlv hk1 hb HPL
  cases b with
  | false =>
    go_wp2_with fail
    refine HLV.out.mono ?_
    rintro e w2 ⟨rfl, hk2⟩
    have HK2 := Lib.hid (Kept.trans HK1.out hk2)
    clear hk2
    go_wp2
    go_ret
    exact ⟨rfl, HK2.out⟩
  | true =>
    by_cases c2' : n < 2
    · go_wp2_with fail
      refine HLV.out.mono ?_
      rintro e w2 ⟨rfl, hk2⟩
      have HK2 := Lib.hid (Kept.trans HK1.out hk2)
      clear hk2
      go_wp2
      go_ret
      exact ⟨rfl, HK2.out⟩
    · have c3 : 36 < n := by
        have h1 := HB.out
        have h2 := HBP.out.1 rfl
        rcases Int.lt_or_le 36 n with h | h
        · exact h
        · exact absurd ⟨h2, by omega, h⟩ h1
      go_wp2_with fail
      refine HLV.out.mono ?_
      rintro e w2 ⟨rfl, hk2⟩
      have HK2 := Lib.hid (Kept.trans HK1.out hk2)
      clear hk2
      go_wp2
      go_ret
      exact ⟨rfl, HK2.out⟩

set_option maxRecDepth 100000 in
set_option maxHeartbeats 4000000 in
theorem lately_main (v1 : Value) (n : Nat) (l : List Fe) (R : List Int) (w : World) (hR : Roots w R) (h1 : Feds w v1 l) (hp : PlainP l) (hn2 : 2 ≤ n) (hn36 : n ≤ 36) :
    Calls Tryd.prog 3 #[v1, .int .i64 n] w (LiveIs w) := by
  have hl30 := hp.le
  have hpl := plain_any v1 l w h1 (by omega)
  obtain ⟨p1, c1, rfl⟩ := h1.slice
  obtain ⟨L, hL⟩ : ∃ L, l.length = L := ⟨_, rfl⟩
  have d2 : ¬ (n : Int) < 2 := by omega
  have d3 : ¬ (36 : Int) < n := by omega
  rw [hL] at hl30 hpl h1 ⊢
  have HPL := Lib.hid hpl
  have HR := Lib.hid hR
  have HP := Lib.hid hp
  have HF1 := Lib.hid h1
  have HL := Lib.hid hL
  clear hpl hR hp h1 hL
  go_enter Tryd.func3, Tryd.ntmps3
  go_wp2_with fail
  refine HPL.out.mono ?_
  rintro e w1 ⟨b, rfl, hb, hk1⟩
  obtain rfl : b = true := hb.2 HP.out
  have HK1 := Lib.hid hk1
  clear hk1 hb HPL
  go_wp2_with fail
  refine (new_ok 4 40 w1 (by omega) (by omega) (by omega) (by omega)).mono ?_
  rintro e w2 ⟨d, F, rfl, hd, hF, hk2⟩
  have hrun := Run.new R (inL l) 4 40 4 n hn2 (by omega) (by omega)
  have hk12 := Kept.trans HK1.out hk2
  have hF' : ∀ k ∈ F, w.heap.size ≤ k := fun k hk => Nat.le_trans HK1.out.size (hF k hk)
  have hoc := open_c R (inL l) d (Sc.new 4 n) (Dv.new 4 40) F w2 (HR.out.kept hk12) hd (Devs.rootsF HR.out hF') hrun.inv (by simp [Sc.new])
  have HOC := Lib.hid hoc
  have HK2 := Lib.hid hk12
  have HF := Lib.hid hF'
  have HRUN := Lib.hid hrun
  clear hoc hd hF hF' hk2 hk12 hrun
  go_wp2_with fail
  refine HOC.out.mono ?_
  rintro e w3 ⟨s, b, seq, hand, rfl, hC, hq, hh, hz, hk3, hs3, hb3⟩
  obtain ⟨rfl, rfl⟩ := hz (blank_new _ _ _ _)
  have hz2 := HK2.out.size
  have hH : Held R w w3 s d b 1000 (Sc.new 4 n) (Dv.new 4 40) F := ⟨hC, Kept.trans HK2.out hk3, fun j hj => by
    simp only [List.mem_cons] at hj
    rcases hj with rfl | rfl | hj
    · omega
    · omega
    · exact HF.out j hj⟩
  have HH := Lib.hid hH
  clear hH hC hq hh hz hk3 hs3 hb3 HOC hz2
  go_wp2_with fail
  go_loopw [7] (fun i wr => ∃ (k : Nat) (F' : List Nat), k ≤ L ∧ i = .int .i64 k ∧ Held R w wr s d b (1000 + k) (feeds R (l.take k) (Sc.new 4 n, Dv.new 4 40)).1 (feeds R (l.take k) (Sc.new 4 n, Dv.new 4 40)).2 F' ∧ Run R (inL l) 4 n k (feeds R (l.take k) (Sc.new 4 n, Dv.new 4 40)) ∧ Lat l n k (feeds R (l.take k) (Sc.new 4 n, Dv.new 4 40))) (fun i _ => L - (intOf i).toNat)
  case atStart => exact ⟨0, F, by omega, rfl, HH.out, HRUN.out, Lat.new l 4 40 4 n⟩
  case round =>
    obtain ⟨k, F', hk, rfl, hh, hrun, hlat⟩ := hrel
    by_cases hkL : k < L
    · obtain ⟨x, hx⟩ : ∃ x, l[k]? = some x := ⟨_, List.getElem?_eq_getElem (by have := HL.out; omega)⟩
      have htk : l.take (k + 1) = l.take k ++ [x] := by rw [List.take_add_one, hx]; rfl
      obtain ⟨T, hT⟩ : ∃ T, feeds R (l.take k) (Sc.new 4 n, Dv.new 4 40) = T := ⟨_, rfl⟩
      rw [hT] at hh hrun hlat
      have hT1 : feeds R (l.take (k + 1)) (Sc.new 4 n, Dv.new 4 40) = feedT R x T := by rw [htk, feeds_snoc, hT]
      have hkd : Kept wr wr.drew := (Below.refl _ _).drew
      have hhd := hh.keep hkd
      have hs := hrun.seq
      have hgood : decide (goodFeed x.1 x.2) = true := decide_eq_true (HP.out.ok x (List.mem_of_getElem? hx))
      have hfc := feed_c R (inL l) s d b (1000 + k) T.1 T.2 F' x wr.drew hhd.c hrun.inv (by have := hrun.ws; omega) (by omega) (by omega)
      rw [hgood] at hfc
      obtain ⟨g, off, rfl, hg, hcx⟩ := HF1.out.blk (by have := HL.out; omega)
      have hbase := hcx k x hx
      have hcs := feedS2 hhd.k hbase
      have HBASE := Lib.hid hbase
      have HCX := Lib.hid hcx
      clear hbase hcx
      have hrun1 := hrun.feed (x := x) (fun hg => ⟨x, List.mem_of_getElem? hx, rfl, rfl⟩)
      have hlat1 := hlat.step HP.out hn2 hrun hx
      have k1 : (0 : Int) ≤ k := by omega
      have k2 : (k : Int) < L := by omega
      have HFC := Lib.hid hfc
      have HHD := Lib.hid hhd
      have HT1 := Lib.hid hT1
      have HRUN1 := Lib.hid (And.intro hrun1 hlat1)
      clear hfc hhd hT1 hrun1 hh hrun hx htk hT hkd hs hgood hlat hlat1
      go_wp2_with fail
      go_region_held3 (fun w' => w'.cell? ⟨g, off + k * 2, none⟩ = some (.string x.1) ∧ w'.cell? ⟨g, off + k * 2 + 1, none⟩ = some (.string x.2)) (first | assumption | exact feedS2 (by assumption) (by assumption))
        ((go_at_call 9; refine HFC.out.mono ?_; rintro e w5 ⟨rfl, F5, hC5, hU5⟩; have hHx := HHD.out.step hC5 hU5; have hcsx := feedS2 hHx.k HBASE.out))
      have HHX := Lib.hid hHx
      clear hcs hcsx hHx hC5 hU5
      go_wp2
      go_roundw
      case rel =>
        refine ⟨k + 1, F5, by omega, by go_num, ?_, ?_, ?_⟩
        · rw [HT1.out]; exact HHX.out
        · rw [HT1.out]; exact HRUN1.out.1
        · rw [HT1.out]; exact HRUN1.out.2
      case measure => simp [intOf]; omega
    · obtain rfl : k = L := by omega
      have htl : l.take k = l := List.take_of_length_le (by have := HL.out; omega)
      rw [htl] at hh hrun hlat
      obtain ⟨T, hT⟩ : ∃ T, feeds R l (Sc.new 4 n, Dv.new 4 40) = T := ⟨_, rfl⟩
      rw [hT] at hh hrun hlat
      obtain ⟨⟨f0, n0, M0, sq0, h0⟩, D⟩ := T
      have e1 : f0 = 4 := hrun.fr
      have e2 : n = n0 := hrun.nn.symm
      subst e1
      subst e2
      have hfl := flush_c R s d b (1000 + k) _ D F' wr hh.c
      have HFL := Lib.hid hfl
      have HH2 := Lib.hid hh
      have HRUN2 := Lib.hid hrun
      have HLAT := Lib.hid hlat
      clear hfl hh hrun htl hT hlat
      go_wp2_with fail
      refine HFL.out.mono ?_
      rintro e w5 ⟨rfl, F5, hC5, hU5⟩
      have hH5 := HH2.out.step hC5 hU5
      have hseq := HRUN2.out.seq
      simp only at hseq
      have hoc := open_c R (inL l) d ⟨4, n, M0, sq0, h0⟩ D.flush F5 w5 hC5.rt hC5.dv hC5.rF HRUN2.out.inv.flush (by show sq0 ≤ 900000; omega)
      simp only at hoc
      have HOC := Lib.hid hoc
      have HH5 := Lib.hid hH5
      clear hoc hH5 hC5 hU5 hseq HFL
      go_wp2_with fail
      refine HOC.out.mono ?_
      rintro e w6 ⟨s2, b2, seq, hand, rfl, hC, hq, hh, hz, hk6, hs6, hb6⟩
      have HC6 := Lib.hid hC
      have HH6 := Lib.hid (HH5.out.keep hk6)
      clear hC hq hh hz hk6 hs6 hb6 HOC
      go_wp2_with fail
      go_loopw [9] (fun i wq => ∃ j : Nat, j ≤ k ∧ i = .int .i64 j ∧ Kept w6 wq) (fun i _ => k - (intOf i).toNat)
      case atStart => exact ⟨0, by omega, rfl, Kept.refl _⟩
      case round =>
        obtain ⟨j, hj, rfl, hkq⟩ := hrel
        by_cases hjk : j < k
        · obtain ⟨x, hx⟩ : ∃ x, l[j]? = some x := ⟨_, List.getElem?_eq_getElem (by have := HL.out; omega)⟩
          obtain ⟨g, off, rfl, hg, hcx⟩ := HF1.out.blk (by have := HL.out; omega)
          have hbase := hcx j x hx
          have hfk := find_k R (inL l) s d b (1000 + k) sq0 h0 ⟨4, n, M0, sq0, h0⟩ _ F5 x.1 _ (HH6.out.c.kept hkq) HRUN2.out.inv.flush (by omega)
          obtain ⟨c0, c1'⟩ := feedS2 (Kept.trans HH6.out.k hkq) hbase
          have k1 : (0 : Int) ≤ j := by omega
          have k2 : (j : Int) < k := by omega
          have HFK := Lib.hid hfk
          have HX := Lib.hid hx
          have HKQ := Lib.hid hkq
          have HBASE := Lib.hid hbase
          clear hfk hx hkq hcx hbase
          go_wp2_with fail
          refine HFK.out.mono ?_
          rintro e w7 ⟨t, is, rfl, hf, hk7⟩
          obtain ⟨c0, c1'⟩ := feedS2 (Kept.trans HH6.out.k (Kept.trans HKQ.out hk7)) HBASE.out
          have hfk2 := find_k R (inL l) s2 d b2 1000 seq hand ⟨4, n, M0, sq0, h0⟩ _ F5 x.1 _ (HC6.out.kept (Kept.trans HKQ.out hk7)) HRUN2.out.inv.flush (by omega)
          have HFK2 := Lib.hid hfk2
          have HF7 := Lib.hid hf
          have HK7 := Lib.hid (Kept.trans HKQ.out hk7)
          clear hf hk7 HFK hfk2
          go_wp2_with fail
          refine HFK2.out.mono ?_
          rintro e w8 ⟨t2, is2, rfl, hf2, hk8⟩
          have hk68 := Kept.trans HK7.out hk8
          have hH8 := HH6.out.keep hk68
          obtain ⟨c0, c1'⟩ := feedS2 hH8.k HBASE.out
          have hrm := room_any s n w8 (by omega) (by rw [hH8.c.sc.c2])
          have HRM := Lib.hid hrm
          have HK8 := Lib.hid hk68
          have hlk := HL.out
          have hA := lat_find HP.out (by rw [hlk]; exact HLAT.out) HX.out HF7.out
          have hB := lat_find HP.out (by rw [hlk]; exact HLAT.out) HX.out hf2
          rw [hlk] at hA hB
          have hrn : roomN n ≤ 100 := by unfold roomN; omega
          clear hf2 hk8 hk68 hH8 hrm hlk HFK2
          rcases hA with ⟨hle, rfl, rfl⟩ | ⟨hle, rfl, rfl⟩
          · rcases hB with ⟨_, rfl, rfl⟩ | ⟨hle2, rfl, rfl⟩
            · have hge : (k : Int) - roomN n ≤ j := by omega
              go_wp2_with fail
              refine HRM.out.mono ?_
              rintro e w9 ⟨rfl, rfl⟩
              have HK9 := Lib.hid (Kept.trans HK8.out (show Kept w8 w8.drew from (Below.refl _ _).drew))
              clear HRM
              go_wp2
              go_roundw
              case rel => exact ⟨j + 1, by omega, by go_num, HK9.out⟩
              case measure => simp [intOf]; omega
            · exact absurd hle hle2
          · rcases hB with ⟨hle2, rfl, rfl⟩ | ⟨_, rfl, rfl⟩
            · exact absurd hle2 hle
            · have hge : ¬ (k : Int) - roomN n ≤ j := by omega
              go_wp2_with fail
              refine HRM.out.mono ?_
              rintro e w9 ⟨rfl, rfl⟩
              have HK9 := Lib.hid (Kept.trans HK8.out (show Kept w8 w8.drew from (Below.refl _ _).drew))
              clear HRM
              go_wp2
              go_roundw
              case rel => exact ⟨j + 1, by omega, by go_num, HK9.out⟩
              case measure => simp [intOf]; omega
        · obtain rfl : j = k := by omega
          have hlv := live_any R _ (HR.out.kept (Kept.trans HH6.out.k hkq))
          have HLV := Lib.hid hlv
          have HKQ := Lib.hid (Kept.trans HH6.out.k hkq)
          clear hlv hkq
          go_wp2_with fail
          refine HLV.out.mono ?_
          rintro e w9 ⟨rfl, hk9⟩
          have HK9 := Lib.hid (Kept.trans HKQ.out hk9)
          clear hk9 HLV
          go_wp2
          go_ret
          exact ⟨rfl, HK9.out⟩
end Go.Proofs.YtbhokalnkfdekaaDoor
