/- The law SecondBounds, walked. -/
import Derived.Test.YtbhokalnkfdekaaDoorLawc
import Derived.Test.YtbhokalnkfdekaaDoorLive
namespace Go.Proofs.YtbhokalnkfdekaaDoor
open Go.RowKit
open Go.Proofs Go.Maps

theorem feedS3 {g o0 o1 : Nat} {v0 v1 : Value} {w w' : World} (hk : Kept w w') (h : w.cell? ⟨g, o0, none⟩ = some v0 ∧ w.cell? ⟨g, o1, none⟩ = some v1) : w'.cell? ⟨g, o0, none⟩ = some v0 ∧ w'.cell? ⟨g, o1, none⟩ = some v1 := by
  obtain ⟨h0, h1⟩ := h
  have l0 := World.block_lt_of_cell? w _ h0
  exact ⟨(hk.cell l0).trans h0, (hk.cell (p := ⟨g, o1, none⟩) l0).trans h1⟩

/-- nothing lies beyond the region -/
structure Bnd (f n : Nat) (D : Dv) : Prop where
  l0 : D.l0 = false
  z0 : D.s0.length = 4
  z1 : D.s1.length = 40
  g0 : ∀ a : Int, 0 ≤ a → D.get 0 a = ⟨#[]⟩
  g1 : ∀ a : Int, 0 ≤ a → (a < f ∨ f + n ≤ a) → D.get 1 a = ⟨#[]⟩
theorem Bnd.new (f n : Nat) : Bnd f n (Dv.new 4 40) := ⟨rfl, by simp [Dv.new], by simp [Dv.new], fun a _ => new_get _ _ _ _, fun a _ _ => new_get _ _ _ _⟩
theorem Bnd.feed {R : List Int} {H : ByteArray → ByteArray → Prop} {f n k : Nat} {T : Sc × Dv} {x : Fe} (h : Bnd f n T.2) (hr : Run R H f n k T) : Bnd f n (feedT R x T).2 := by
  obtain ⟨S, D⟩ := T
  unfold feedT
  split
  · split
    · exact h
    · have hi : Inv R H S D := hr.inv
      have hp := hi.hand
      have hfr : S.from' = f := hr.fr
      have hnn : S.n = n := hr.nn
      rw [feedN_eq]
      have hg : 7 * (S.hand / 7) < roomN S.n := by omega
      have ew : ∀ (D : Dv) (a b : Int) (t : ByteArray), (D.write a b t).s0.length = D.s0.length ∧ (D.write a b t).s1.length = D.s1.length ∧ (D.write a b t).l0 = D.l0 := fun _ _ _ _ => ⟨rfl, rfl, rfl⟩
      have ef : ∀ D : Dv, D.flush.s0.length = D.s0.length ∧ D.flush.s1.length = D.s1.length ∧ D.flush.l0 = D.l0 := fun D => by
        obtain ⟨a, b, c, _⟩ := Dv.puts_shape D.ws D
        exact ⟨a, b, c⟩
      refine ⟨?_, ?_, ?_, fun a ha => ?_, fun a ha hout => ?_⟩
      · simp only [fd5, fd4, fd1]
        rw [(ew _ _ _ _).2.2, (ef _).2.2, (ew _ _ _ _).2.2, (ef _).2.2, (ew _ _ _ _).2.2]; exact h.l0
      · simp only [fd5, fd4, fd1]
        rw [(ew _ _ _ _).1, (ef _).1, (ew _ _ _ _).1, (ef _).1, (ew _ _ _ _).1]; exact h.z0
      · simp only [fd5, fd4, fd1]
        rw [(ew _ _ _ _).2.1, (ef _).2.1, (ew _ _ _ _).2.1, (ef _).2.1, (ew _ _ _ _).2.1]; exact h.z1
      · show (fd5 R S D (S.hand / 7) S.hand x.1 x.2).get 0 a = _
        rw [hi.get5 hg hp x.1 x.2 0 a (.inl rfl) ha, if_neg (fun hh => by have := hh.1; omega), if_neg (fun hh => by have := hh.1; omega)]
        exact h.g0 a ha
      · show (fd5 R S D (S.hand / 7) S.hand x.1 x.2).get 1 a = _
        have hlg := log_in hg
        have hpl := place_in (n := S.n) (g := S.hand / 7) (i := S.hand % 7) (by omega) (by omega)
        rw [hi.get5 hg hp x.1 x.2 1 a (.inr rfl) ha, if_neg (fun hh => by have := hh.2; omega), if_neg (fun hh => by have := hh.2; unfold atOf at this; omega)]
        exact h.g1 a ha hout
  · exact h

theorem bounds_live (v1 : Value) (f n : Int) (l : List Fe) (R : List Int) (w : World) (hR : Roots w R) (h1 : Feds w v1 l) (hl : l.length ≤ 9223372036854775807) (hf63 : -9223372036854775808 ≤ f ∧ f ≤ 9223372036854775807) (hn63 : -9223372036854775808 ≤ n ∧ n ≤ 9223372036854775807) (hbad : ¬ (l.length ≤ 30 ∧ 0 ≤ f ∧ 2 ≤ n ∧ f ≤ 40 - n)) :
    Calls Tryd.prog 4 #[v1, .int .i64 f, .int .i64 n] w (LiveIs w) := by
  obtain ⟨p1, c1, rfl⟩ := h1.slice
  obtain ⟨L, hL⟩ : ∃ L, l.length = L := ⟨_, rfl⟩
  rw [hL] at hl hbad ⊢
  have hlv := live_any R w hR
  have HLV := Lib.hid hlv
  clear hlv hR h1 hL
  by_cases q1 : (30 : Int) < L
  · clear hbad
    go_enter Tryd.func4, Tryd.ntmps4
    go_wp2_with fail
    refine HLV.out.mono ?_
    rintro e w2 ⟨rfl, hk2⟩
    have HK2 := Lib.hid hk2
    clear hk2
    go_wp2
    go_ret
    exact ⟨rfl, HK2.out⟩
  · by_cases q2 : f < 0
    · clear hbad
      go_enter Tryd.func4, Tryd.ntmps4
      go_wp2_with fail
      refine HLV.out.mono ?_
      rintro e w2 ⟨rfl, hk2⟩
      have HK2 := Lib.hid hk2
      clear hk2
      go_wp2
      go_ret
      exact ⟨rfl, HK2.out⟩
    · by_cases q3 : n < 2
      · clear hbad
        go_enter Tryd.func4, Tryd.ntmps4
        go_wp2_with fail
        refine HLV.out.mono ?_
        rintro e w2 ⟨rfl, hk2⟩
        have HK2 := Lib.hid hk2
        clear hk2
        go_wp2
        go_ret
        exact ⟨rfl, HK2.out⟩
      · have q4 : 40 - n < f := by omega
        clear hbad
        go_enter Tryd.func4, Tryd.ntmps4
        go_wp2_with fail
        refine HLV.out.mono ?_
        rintro e w2 ⟨rfl, hk2⟩
        have HK2 := Lib.hid hk2
        clear hk2
        go_wp2
        go_ret
        exact ⟨rfl, HK2.out⟩

set_option maxRecDepth 100000 in
set_option maxHeartbeats 4000000 in
theorem bounds_main (v1 : Value) (f n : Nat) (l : List Fe) (R : List Int) (w : World) (hR : Roots w R) (h1 : Feds w v1 l) (hl30 : l.length ≤ 30) (hn2 : 2 ≤ n) (hfn : f + n ≤ 40) :
    Calls Tryd.prog 4 #[v1, .int .i64 f, .int .i64 n] w (LiveIs w) := by
  obtain ⟨p1, c1, rfl⟩ := h1.slice
  obtain ⟨L, hL⟩ : ∃ L, l.length = L := ⟨_, rfl⟩
  have d0 : ¬ (30 : Int) < L := by omega
  have d1 : ¬ (f : Int) < 0 := by omega
  have d2 : ¬ (n : Int) < 2 := by omega
  have d3 : ¬ (40 : Int) - n < f := by omega
  rw [hL] at hl30 h1 ⊢
  have HR := Lib.hid hR
  have HF1 := Lib.hid h1
  have HL := Lib.hid hL
  clear hR h1 hL
  go_enter Tryd.func4, Tryd.ntmps4
  go_wp2_with fail
  refine (new_ok 4 40 w (by omega) (by omega) (by omega) (by omega)).mono ?_
  rintro e w2 ⟨d, F, rfl, hd, hF, hk2⟩
  have hrun := Run.new R (fun _ _ => True) 4 40 f n hn2 (by omega) (by omega)
  have hoc := open_c R (fun _ _ => True) d (Sc.new f n) (Dv.new 4 40) F w2 (HR.out.kept hk2) hd (Devs.rootsF HR.out hF) hrun.inv (by simp [Sc.new])
  have HOC := Lib.hid hoc
  have HK2 := Lib.hid hk2
  have HF := Lib.hid hF
  have HRUN := Lib.hid hrun
  clear hoc hd hF hk2 hrun
  go_wp2_with fail
  refine HOC.out.mono ?_
  rintro e w3 ⟨s, b, seq, hand, rfl, hC, hq, hh, hz, hk3, hs3, hb3⟩
  obtain ⟨rfl, rfl⟩ := hz (blank_new _ _ _ _)
  have hz2 := HK2.out.size
  have hH : Held R w w3 s d b 1000 (Sc.new f n) (Dv.new 4 40) F := ⟨hC, Kept.trans HK2.out hk3, fun j hj => by
    simp only [List.mem_cons] at hj
    rcases hj with rfl | rfl | hj
    · omega
    · omega
    · exact HF.out j hj⟩
  have HH := Lib.hid hH
  clear hH hC hq hh hz hk3 hs3 hb3 HOC hz2
  go_wp2_with fail
  go_loopw [9] (fun i wr => ∃ (k : Nat) (F' : List Nat), k ≤ L ∧ i = .int .i64 k ∧ Held R w wr s d b (1000 + k) (feeds R (l.take k) (Sc.new f n, Dv.new 4 40)).1 (feeds R (l.take k) (Sc.new f n, Dv.new 4 40)).2 F' ∧ Run R (fun _ _ => True) f n k (feeds R (l.take k) (Sc.new f n, Dv.new 4 40)) ∧ Bnd f n (feeds R (l.take k) (Sc.new f n, Dv.new 4 40)).2) (fun i _ => L - (intOf i).toNat)
  case atStart => exact ⟨0, F, by omega, rfl, HH.out, HRUN.out, Bnd.new f n⟩
  case round =>
    obtain ⟨k, F', hk, rfl, hh, hrun, hbn⟩ := hrel
    by_cases hkL : k < L
    · obtain ⟨x, hx⟩ : ∃ x, l[k]? = some x := ⟨_, List.getElem?_eq_getElem (by have := HL.out; omega)⟩
      have htk : l.take (k + 1) = l.take k ++ [x] := by rw [List.take_add_one, hx]; rfl
      obtain ⟨T, hT⟩ : ∃ T, feeds R (l.take k) (Sc.new f n, Dv.new 4 40) = T := ⟨_, rfl⟩
      rw [hT] at hh hrun hbn
      have hT1 : feeds R (l.take (k + 1)) (Sc.new f n, Dv.new 4 40) = feedT R x T := by rw [htk, feeds_snoc, hT]
      have hkd : Kept wr wr.drew := (Below.refl _ _).drew
      have hhd := hh.keep hkd
      have hs := hrun.seq
      have hfc := feed_c R (fun _ _ => True) s d b (1000 + k) T.1 T.2 F' x wr.drew hhd.c hrun.inv (by have := hrun.ws; omega) (by omega) (by omega)
      obtain ⟨g, off, rfl, hg, hcx⟩ := HF1.out.blk (by have := HL.out; omega)
      have hbase := hcx k x hx
      have hcs := feedS3 hhd.k hbase
      have HBASE := Lib.hid hbase
      have HCX := Lib.hid hcx
      clear hbase hcx
      have hrun1 := hrun.feed (x := x) (fun _ => trivial)
      have hbn1 := hbn.feed (x := x) hrun
      have k1 : (0 : Int) ≤ k := by omega
      have k2 : (k : Int) < L := by omega
      have HFC := Lib.hid hfc
      have HHD := Lib.hid hhd
      have HT1 := Lib.hid hT1
      have HRUN1 := Lib.hid (And.intro hrun1 hbn1)
      clear hfc hhd hT1 hrun1 hh hrun hx htk hT hkd hs hbn hbn1
      go_wp2_with fail
      go_region_held3 (fun w' => w'.cell? ⟨g, off + k * 2, none⟩ = some (.string x.1) ∧ w'.cell? ⟨g, off + k * 2 + 1, none⟩ = some (.string x.2)) (first | assumption | exact feedS3 (by assumption) (by assumption))
        ((go_at_call 9; refine HFC.out.mono ?_; rintro e w5 ⟨rfl, F5, hC5, hU5⟩; have hHx := HHD.out.step hC5 hU5; have hcsx := feedS3 hHx.k HBASE.out))
      have HHX := Lib.hid hHx
      clear hcs hcsx hHx hC5 hU5
      go_wp2
      go_roundw
      case rel =>
        refine ⟨k + 1, F5, by omega, by go_num, ?_, ?_, ?_⟩
        · rw [HT1.out]; exact HHX.out
        · rw [HT1.out]; exact HRUN1.out.1
        · rw [HT1.out]; exact HRUN1.out.2
      case measure => simp [intOf]; omega
    · obtain rfl : k = L := by omega
      obtain ⟨T, hT⟩ : ∃ T, feeds R (l.take k) (Sc.new f n, Dv.new 4 40) = T := ⟨_, rfl⟩
      rw [hT] at hh hrun hbn
      obtain ⟨wB, rfl⟩ : ∃ wB : World, wB = wr := ⟨_, rfl⟩
      have HHB := Lib.hid hh
      have HRB := Lib.hid hrun
      have HBN := Lib.hid hbn
      clear hh hrun hbn hT
      go_wp2_with fail
      go_loopw [10] (fun i wr => ∃ v : Nat, v ≤ 2 ∧ i = .int .i64 v ∧ Kept wB wr) (fun i _ => 2 - (intOf i).toNat)
      case atStart => exact ⟨0, by omega, rfl, Kept.refl _⟩
      case round =>
        obtain ⟨v, hv, rfl, hkv⟩ := hrel
        by_cases hv2 : v < 2
        · obtain ⟨wv, rfl⟩ : ∃ wv : World, wv = wr := ⟨_, rfl⟩
          have HKV := Lib.hid hkv
          clear hkv
          obtain ⟨z, hz⟩ : ∃ z, T.2.len v = z := ⟨_, rfl⟩
          have hz40 : z ≤ 40 ∧ (v = 0 → z = 4) ∧ (v = 1 → z = 40) := by
            rw [← hz]
            have e0 := HBN.out.z0
            have e1 := HBN.out.z1
            obtain rfl | rfl : v = 0 ∨ v = 1 := by omega
            · simp [Dv.len, e0]
            · simp [Dv.len, e1]
          have hz40' : (z : Int) ≤ 40 := by omega
          have HZ := Lib.hid (And.intro hz hz40)
          clear hz hz40
          go_wp2_with fail
          go_loopw [11] (fun i wq => ∃ a : Nat, a ≤ z ∧ i = .int .i64 a ∧ Kept wv wq) (fun i _ => z - (intOf i).toNat)
          case atStart => exact ⟨0, by omega, rfl, Kept.refl _⟩
          case round =>
            obtain ⟨a, ha, rfl, hka⟩ := hrel
            have hda := HHB.out.c.dv.kept (Kept.trans HKV.out hka)
            by_cases haz : a < z
            · have hval : T.2.valid v a := by
                obtain ⟨hz, _, z4, z40⟩ := HZ.out
                have e0 := HBN.out.z0
                have e1 := HBN.out.z1
                obtain rfl | rfl : v = 0 ∨ v = 1 := by omega
                · exact .inl ⟨rfl, by omega, by have := z4 rfl; omega⟩
                · exact .inr ⟨rfl, by omega, by have := z40 rfl; omega⟩
              have hlost : T.2.lost v = false := by
                obtain rfl | rfl : v = 0 ∨ v = 1 := by omega
                · simp [Dv.lost, HBN.out.l0]
                · exact HRB.out.inv.fit.lost
              have hrd := fun (W : World) (hk : Kept wv W) => read_ok d T.2 F' v a W (HHB.out.c.dv.kept (Kept.trans HKV.out hk)) hval hlost (by have := HRB.out.ws; omega)
              have hsz := size_any d T.2 F' v _ hda
              rw [HZ.out.1] at hsz
              have HRD := Lib.hid hrd
              have HSZ := Lib.hid hsz
              have HKA := Lib.hid hka
              obtain ⟨t, ht⟩ : ∃ t, T.2.get v a = t := ⟨_, rfl⟩
              have hte : (v = 0 ∨ (a : Int) < f ∨ (f : Int) + n ≤ a) → t = ⟨#[]⟩ := by
                intro hh
                rw [← ht]
                obtain rfl | rfl : v = 0 ∨ v = 1 := by omega
                · exact HBN.out.g0 a (by omega)
                · exact HBN.out.g1 a (by omega) (by rcases hh with h | h | h <;> omega)
              have HTT := Lib.hid ht
              have HTE := Lib.hid hte
              clear hrd hsz hka hda hval hlost ht hte
              go_wp2_with fail
              refine HSZ.out.mono ?_
              rintro e w7 ⟨rfl, rfl⟩
              go_wp2_with fail
              refine (HRD.out _ HKA.out).mono ?_
              rintro e w8 ⟨rfl, hk8⟩
              rw [HTT.out]
              have HK8 := Lib.hid (Kept.trans HKA.out hk8)
              clear hk8
              by_cases hv0 : v = 0
              · obtain rfl := HTE.out (.inl hv0)
                subst hv0
                go_wp2
                go_roundw
                case rel => first | exact ⟨a + 1, by omega, by go_num, HK8.out⟩ | ((repeat apply Exists.intro); refine ⟨⟨a + 1, by omega, by go_num, HK8.out⟩, ?_⟩; first | rfl | simp)
                case measure => simp [intOf]; omega
              · obtain rfl : v = 1 := by omega
                by_cases ho : (a : Int) < f ∨ (f : Int) + n ≤ a
                · obtain rfl := HTE.out (.inr ho)
                  clear ho hv0
                  go_wp2
                  go_roundw
                  case rel => first | exact ⟨a + 1, by omega, by go_num, HK8.out⟩ | ((repeat apply Exists.intro); refine ⟨⟨a + 1, by omega, by go_num, HK8.out⟩, ?_⟩; first | rfl | simp)
                  case measure => simp [intOf]; omega
                · have o1 : ¬ (a : Int) < f := fun h => ho (.inl h)
                  have o2 : ¬ (f : Int) + n ≤ a := fun h => ho (.inr h)
                  clear ho hv0
                  go_wp2
                  all_goals
                    go_roundw
                    case rel => first | exact ⟨a + 1, by omega, by go_num, HK8.out⟩ | ((repeat apply Exists.intro); refine ⟨⟨a + 1, by omega, by go_num, HK8.out⟩, ?_⟩; first | rfl | simp)
                    case measure => simp [intOf]; omega
            · obtain rfl : a = z := by omega
              have hsz := size_any d T.2 F' v _ hda
              rw [HZ.out.1] at hsz
              have HSZ := Lib.hid hsz
              have HKA := Lib.hid (Kept.trans HKV.out hka)
              clear hsz hda hka
              go_wp2_with fail
              refine HSZ.out.mono ?_
              rintro e w7 ⟨rfl, rfl⟩
              go_wp2
              go_roundw
              case rel => exact ⟨v + 1, by omega, by go_num, HKA.out⟩
              case measure => simp [intOf]; omega
        · obtain rfl : v = 2 := by omega
          have hlv := live_any R _ (HR.out.kept (Kept.trans HHB.out.k hkv))
          have HLV := Lib.hid hlv
          have HKV := Lib.hid (Kept.trans HHB.out.k hkv)
          clear hlv hkv
          go_wp2_with fail
          refine HLV.out.mono ?_
          rintro e w9 ⟨rfl, hk9⟩
          have HK9 := Lib.hid (Kept.trans HKV.out hk9)
          clear hk9 HLV
          go_wp2
          go_ret
          exact ⟨rfl, HK9.out⟩
end Go.Proofs.YtbhokalnkfdekaaDoor
