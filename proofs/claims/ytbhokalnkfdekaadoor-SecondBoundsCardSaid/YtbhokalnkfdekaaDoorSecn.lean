/- Package second: Open, of a region that may be. -/
import Derived.Test.YtbhokalnkfdekaaDoorSecm
namespace Go.Proofs.YtbhokalnkfdekaaDoor
open Go.RowKit
open Go.Proofs Go.Shelf Go.Maps
attribute [local go_sem] Oper.semAt_some

set_option maxRecDepth 100000 in
set_option maxHeartbeats 4000000 in
theorem open_ok (R : List Int) (d Q : Nat) (S : Sc) (D : Dv) (F : List Nat) (w : World) (hR : Roots w R) (hd : Devs w d D F) (hrF : 0 ∉ F) (h2 : 2 ≤ S.n) (hreg : S.from' + S.n ≤ D.s1.length) (hl : D.l1 = false) (hws : D.ws.length ≤ 1000000000) (hQ : Q ≤ 900000)
    (hat : Ats S) (hlog : ∀ g, 7 * g < roomN S.n → LogOk R D S Q g) :
    Calls Tryd.prog 8 #[.pointer (some ⟨d, 0, none⟩), .int .i64 S.from', .int .i64 S.n] w fun e w' => ∃ s b seq hand, e = .returned (.pointer (some ⟨s, 0, none⟩)) ∧ Cach R w' s d b 1000 { S with seq := seq, hand := hand } D F ∧ seq ≤ Q ∧ hand < roomN S.n ∧ ZeroIf (Blank D S.from' S.n) seq hand ∧ Kept w w' ∧ w.heap.size ≤ s ∧ w.heap.size ≤ b := by
  have hs : D.s1.length ≤ 512 := hd.ok.le1
  have hlen : D.len 1 = D.s1.length := by simp [Dv.len]
  obtain ⟨z, hz⟩ : ∃ z, D.s1.length = z := ⟨_, rfl⟩
  have hlost : D.lost 1 = false := by simp [Dv.lost, hl]
  have hval : ∀ a : Int, 0 ≤ a → a < S.from' + S.n → D.valid 1 a := fun a h0 h1 => .inr ⟨rfl, h0, by omega⟩
  have hmm := @run_makeMap Tryd.prog
  obtain ⟨f, hf⟩ : ∃ f, S.from' = f := ⟨_, rfl⟩
  obtain ⟨n, hn⟩ : ∃ n, S.n = n := ⟨_, rfl⟩
  have hroom : roomN n ≤ 512 ∧ 1 ≤ roomN n := by unfold roomN; omega
  rw [hz] at hs hlen
  rw [hf] at hreg hval ⊢
  rw [hn] at h2 hreg hval hlog ⊢
  rw [hz] at hreg
  have g1 : ¬ (n : Int) < 2 := by omega
  have g0 : ¬ (f : Int) < 0 := by omega
  have g2 : ¬ (z : Int) - n < f := by omega
  have HD := Lib.hid hd
  have HL := Lib.hid hlen
  have HR := Lib.hid hR
  have HAT := Lib.hid hat
  have HLOG := Lib.hid hlog
  have HVAL := Lib.hid hval
  have HLOST := Lib.hid hlost
  have HFN := Lib.hid (And.intro hf (And.intro hn (And.intro hz hl)))
  clear hd hlen hz hR hat hlog hval hlost hf hn hl
  go_enter Tryd.func8, Tryd.ntmps8
  go_wp2_with (go_at_call 13; refine (size_any d D F 1 _ HD.out).mono ?_; rintro e w' ⟨rfl, rfl⟩; rw [HL.out])
  obtain ⟨w, rfl⟩ : ∃ w : World, w = w' := ⟨_, rfl⟩
  obtain ⟨a1, a2, _, hkA, hzA⟩ := alloc3 w (.map #[] 0) (.cells #[.pointer (some ⟨d, 0, none⟩), .int .i64 f, .int .i64 n, .map (some w.heap.size), .int .i64 0, .int .i64 0] 55) (.map #[] 0)
  obtain ⟨wL, hwL⟩ : ∃ wL, (w.alloc (.map #[] 0)).alloc (.cells #[.pointer (some ⟨d, 0, none⟩), .int .i64 f, .int .i64 n, .map (some w.heap.size), .int .i64 0, .int .i64 0] 55) = wL := ⟨_, rfl⟩
  rw [hwL] at a1 a2 hkA hzA ⊢
  have hzL : wL.heap.size = w.heap.size + 2 := by rw [← hwL]; simp
  have hkL : Kept w wL := by rw [← hwL]; exact (by repeat (first | exact Below.refl _ _ | assumption | refine Below.drewN ?_ _ | refine Below.drew ?_ | (refine Below.alloc' _ ?_ ?_; (focus ((first | omega | (simp; done) | (simp; omega))))) | (refine Below.setCell' _ ?_ ?_; (focus ((first | omega | (simp; done) | (simp; omega)))))))
  rw [heap_alloc_old _ _ _ (by omega)] at a1 a2
  obtain ⟨s, hsq⟩ : ∃ s, w.heap.size + 1 = s := ⟨_, rfl⟩
  obtain ⟨b, hbq⟩ : ∃ b, w.heap.size = b := ⟨_, rfl⟩
  rw [hsq] at a2 ⊢
  rw [hbq] at a1 a2
  have hI0 : IsSc wL s d b 0 { S with M := firstM S 0, seq := 0, hand := 0 } := by
    obtain ⟨hf, hn, _, _⟩ := HFN.out
    subst hf hn
    exact ⟨a2, by rw [firstM_zero]; show Mp wL b 0 (mapV (fun _ => none)); rw [mapV_none]; exact Mp.empty a1, (by show S.n ≤ 512; omega), (by show S.from' ≤ 512; omega), fun p x hx => by simp [firstM] at hx⟩
  have hc2 : wL.cell? ⟨s, 2, none⟩ = some (.int .i64 n) := by rw [cell_blk a2]; rfl
  have hrm := room_any s n wL (by omega) hc2
  have HRM := Lib.hid hrm
  have hkd : Kept wL wL.drew := (Below.refl _ _).drew
  have HI0 := Lib.hid (hI0.kept hkd)
  have HKW := Lib.hid (Kept.trans hkL hkd)
  have HSQ := Lib.hid (And.intro hsq (And.intro hbq hzL))
  have hr1 : (roomN n : Int) ≤ 512 := by omega
  have hr0 : (1 : Int) ≤ roomN n := by omega
  have hRs : s ≠ 0 := by have := HR.out.lt; omega
  have hbL : b < wL.heap.size ∧ s < wL.heap.size ∧ w.heap.size ≤ s ∧ w.heap.size ≤ b := by omega
  clear hwL a1 a2 hkA hzA hkL hI0 hrm hsq hbq hkd hzL hc2
  go_wp2_with fail
  refine HRM.out.mono ?_
  rintro e w' ⟨rfl, rfl⟩
  go_wp2_with fail
  obtain ⟨G, hG⟩ : ∃ G, (roomN n + 6) / 7 = G := ⟨_, rfl⟩
  rw [show ((roomN n : Int) + 7 - 1) / 7 = (G : Int) by omega]
  have HG := Lib.hid hG
  have hG64 : (G : Int) ≤ 80 := by omega
  clear hG
  go_loopw [8, 41] (fun best i wr => ∃ (k seq hand : Nat) (bq : Int), k ≤ G ∧ i = .int .i64 k ∧ best = .int .i64 bq ∧ -1 ≤ bq ∧ bq ≤ Q ∧ IsSc wr s d b (7 * k) { S with M := firstM S k, seq := seq, hand := hand } ∧ seq ≤ Q ∧ hand < roomN n ∧ ZeroIf (Blank D f n) seq hand ∧ Kept w wr) (fun _ i _ => G - (intOf i).toNat)
  case atStart => exact ⟨0, 0, 0, -1, by omega, rfl, rfl, by omega, by omega, HI0.out, by omega, by omega, fun _ => ⟨rfl, rfl⟩, HKW.out⟩
  case round =>
    obtain ⟨k, seq, hand, bq, hk, rfl, rfl, hb1, hb2, hI, hsq, hhd, hzi, hkw⟩ := hrel
    have HZI := Lib.hid hzi
    clear hzi
    by_cases hkG : k < G
    · have hk7 : 7 * k < roomN n := by have := HG.out; omega
      have hk8 : 8 * k < n := log_in hk7
      have hlog := HLOG.out k hk7
      have hdw := HD.out.kept hkw
      have hvk := HVAL.out ((f : Int) + 8 * k) (by omega) (by omega)
      have hfe : S.from' = f := HFN.out.1
      have hne : S.n = n := HFN.out.2.1
      have hkz := hkw.size
      rcases hlog with ⟨hls, hle⟩ | ⟨q, hqQ, hle⟩
      · have hld := load_short s d b _ k _ D F wr hI hdw (by omega) (by show D.valid 1 ((S.from' : Int) + 8 * k); rw [hfe]; exact hvk) HLOST.out hws hls
        have HLD := Lib.hid hld
        have HI := Lib.hid hI
        have HKW2 := Lib.hid hkw
        have HLE := Lib.hid hle
        clear hld hI hkw hle hls hdw hvk hfe hne
        go_wp2_with fail
        refine HLD.out.mono ?_
        rintro e w2 ⟨rfl, hk2⟩
        have hk3 : Kept wr (w2.alloc (.cells #[.int .i64 0, .slice none 0 0] 57)) := Kept.trans hk2 ((Below.refl _ _).alloc (Nat.le_refl _) _)
        have HK3 := Lib.hid hk3
        clear hk2 hk3 HLD
        go_wp2
        go_roundw
        case rel =>
          have hI2 := HI.out.kept HK3.out
          have e := firstM_none HAT.out k HLE.out
          refine ⟨k + 1, seq, hand, bq, by omega, by go_num, rfl, hb1, hb2, ?_, hsq, hhd, HZI.out, Kept.trans HKW2.out HK3.out⟩
          rw [e]
          exact ⟨hI2.blk, hI2.mp.mono (by omega), hI2.okn, hI2.okf, hI2.okm⟩
        case measure => simp [intOf]; omega
      · have hokb : OkB q (groupE S k (secs S.n k)) := ⟨by omega, by
          have h1 := groupE_len S k (secs S.n k)
          have h2 := secs_length S.n k
          omega, groupE_ok (fun p x hx => ⟨(HAT.out p x hx).1, (HAT.out p x hx).2.1⟩) k _⟩
        have hld := load_ok R s d b _ k q _ D F (groupE S k (secs S.n k)) wr (HR.out.kept hkw) hI hdw (by omega) (by omega) (by show D.valid 1 ((S.from' : Int) + 8 * k); rw [hfe]; exact hvk) HLOST.out hws hle hokb (groupE_own HAT.out k)
        have HLD := Lib.hid hld
        have HI := Lib.hid hI
        have HKW2 := Lib.hid hkw
        have hl7 := hokb.2.1
        have hqQ' : (q : Int) ≤ Q := by omega
        have hnz : ∀ a b, ZeroIf (Blank D f n) a b := fun a b hB => absurd (show (encB R q _).size < 41 by rw [← hle, hfe]; exact hB k hk7) (encB_long R q _)
        have HNZ := Lib.hid hnz
        clear hnz
        clear hld hI hkw hle hdw hvk hfe hne hokb
        go_wp2_with fail
        refine HLD.out.mono ?_
        rintro e w2 ⟨vp, vc, rfl, hI2, hU2⟩
        rw [firstM_succ HAT.out k] at hI2
        obtain ⟨W, hW⟩ : ∃ W, w2.alloc (.cells #[.int .i64 q, .slice vp (groupE S k (secs S.n k)).length vc] 57) = W := ⟨_, rfl⟩
        obtain ⟨x0, hkW, hzW⟩ := box2 w2 _ _ _ W hW
        have hI3 := hI2.kept hkW
        obtain ⟨qx, hqx⟩ : ∃ qx, w2.heap.size = qx := ⟨_, rfl⟩
        rw [hqx] at x0
        have hkW2 : Kept w W := ⟨hkW.os.trans (hU2.os.trans HKW2.out.os), hkW.tape.trans (hU2.tape.trans HKW2.out.tape), hkW.output.trans (hU2.output.trans HKW2.out.output), by have := HKW2.out.size; have := hU2.size; have := hkW.size; omega, fun k hk => by
          have h1 := HKW2.out.size
          have h2 := hU2.size
          rw [hkW.heap (by omega), hU2.block k (by omega) (by simp; omega), HKW2.out.heap hk]⟩
        have hsx : s ≠ qx := by have := lt_blk hI2.blk; omega
        have HI3 := Lib.hid hI3
        have HKWW := Lib.hid hkW2
        have HWW := Lib.hid hW
        have HQX := Lib.hid hqx
        clear hI2 hU2 hkW hI3 hkW2 hW hqx hzW HLD HI
        by_cases hqb : (q : Int) < bq
        · go_wp2
          go_roundw
          case rel =>
            rw [show w2.alloc (.cells #[.int .i64 q, .slice vp (groupE S k (secs S.n k)).length vc] 57) = W from HWW.out]
            have h := HI3.out
            exact ⟨k + 1, seq, hand, bq, by omega, by go_num, rfl, hb1, hb2, ⟨h.blk, h.mp.mono (by omega), h.okn, h.okf, h.okm⟩, hsq, hhd, HZI.out, HKWW.out⟩
          case measure => simp [intOf]; omega
        · have c4 := HI3.out.c4
          have c5 := HI3.out.c5
          have c2 := HI3.out.c2
          have f4 := HI3.out.fz 4
          have f5 := HI3.out.fz 5
          have x0d : W.drew.cell? ⟨qx, 0, none⟩ = some (.int .i64 q) := x0
          rw [show ({ S with M := firstM S (k + 1), seq := seq, hand := hand } : Sc).n = n from HFN.out.2.1] at c2
          simp only at c4 c5
          go_wp2_with fail
          rw [show w2.alloc (.cells #[.int .i64 q, .slice vp (groupE S k (secs S.n k)).length vc] 57) = W from HWW.out, show w2.heap.size = qx from HQX.out]
          go_region_held3 (fun w' => w'.cell? ⟨qx, 0, none⟩ = some (.int .i64 q)) (first | assumption | exact keep_set (by assumption) (Ne.symm hsx)) (fail)
          go_wp2_with fail
          obtain ⟨W4, hW4⟩ : ∃ W4, ((W.setCell ⟨s, 4, none⟩ (.int .i64 q)).setCell ⟨s, 5, none⟩ (.int .i64 (7 * ((k : Int) + 1)))).drew = W4 := ⟨_, rfl⟩
          rw [hW4]
          have hs4 : W4.heap[s]? = some (.cells #[.pointer (some ⟨d, 0, none⟩), .int .i64 S.from', .int .i64 S.n, .map (some b), .int .i64 q, .int .i64 (7 * (k + 1) : Nat)] 55 (0, 0)) := by
            rw [← hW4, heap_drew, heap_set_eq _ _ _ _ (heap_set_eq _ _ _ _ HI3.out.blk)]
            simp
          have hn4 : ∀ j, j ≠ s → W4.heap[j]? = W.heap[j]? := fun j hj => by rw [← hW4, heap_drew, heap_set_ne _ _ _ _ _ hj, heap_set_ne _ _ _ _ _ hj]
          have hI4 := HI3.out.set q (7 * (k + 1)) hs4 (hn4 b (fun e => tell_ne HI3.out HI3.out.blk e))
          have hk4 : Kept w W4 := by
            have h := HKWW.out
            refine ⟨?_, ?_, ?_, ?_, fun j hj => (hn4 j (by omega)).trans (h.heap hj)⟩
            · rw [← hW4]; exact h.os
            · rw [← hW4]; exact h.tape
            · rw [← hW4]; exact h.output
            · rw [← hW4]; have := h.size; simp only [heap_drew, size_set]; exact this
          have hkd : Kept W4 W4.drew := (Below.refl _ _).drew
          have d5 : W4.drew.cell? ⟨s, 5, none⟩ = some (.int .i64 (7 * ((k : Int) + 1))) := by rw [cell_blk (w := W4.drew) hs4]; simp
          have d2 : W4.drew.cell? ⟨s, 2, none⟩ = some (.int .i64 n) := by rw [cell_blk (w := W4.drew) hs4, ← HFN.out.2.1]; rfl
          have HI4 := Lib.hid (hI4.kept hkd)
          have HK4 := Lib.hid (Kept.trans hk4 hkd)
          clear hW4 hs4 hn4 hI4 hk4 hkd c4 c5 c2 f4 f5 x0d x0
          by_cases hroomk : (roomN n : Int) ≤ 7 * ((k : Int) + 1)
          · go_region_held3 (fun w' => w'.cell? ⟨s, 5, none⟩ = some (.int .i64 (7 * ((k : Int) + 1))) ∧ w'.cell? ⟨s, 2, none⟩ = some (.int .i64 n)) (first | assumption | exact ⟨d5, d2⟩)
              ((go_at_call 12; refine (room_any s n _ (by omega) (And.right (by assumption))).mono ?_; rintro e w' ⟨rfl, rfl⟩))
            have f5 : W4.drew.drew.frozen? ⟨s, 5, none⟩ = false := HI4.out.fz 5
            have d5' : W4.drew.drew.cell? ⟨s, 5, none⟩ = some (.int .i64 (7 * ((k : Int) + 1))) := d5
            go_wp2
            go_roundw
            case rel =>
              have h := HI4.out.kept (show Kept W4.drew W4.drew.drew from (Below.refl _ _).drew)
              obtain ⟨W5, hW5⟩ : ∃ W5, (W4.setCell ⟨s, 5, none⟩ (.int .i64 0)).drew.drew = W5 := ⟨_, rfl⟩
              rw [hW5]
              have hs5 : W5.heap[s]? = some (.cells #[.pointer (some ⟨d, 0, none⟩), .int .i64 S.from', .int .i64 S.n, .map (some b), .int .i64 q, .int .i64 (0 : Nat)] 55 (0, 0)) := by
                rw [← hW5, heap_drew, heap_drew, heap_set_eq _ _ _ _ (show W4.heap[s]? = _ from h.blk)]
                simp
              have hn5 : ∀ j, j ≠ s → W5.heap[j]? = W4.heap[j]? := fun j hj => by rw [← hW5, heap_drew, heap_drew, heap_set_ne _ _ _ _ _ hj]
              have h5 := h.set q 0 hs5 (hn5 b (fun e => tell_ne h h.blk e))
              have hk5 : Kept w W5 := by
                have h := HK4.out
                refine ⟨?_, ?_, ?_, ?_, fun j hj => (hn5 j (by omega)).trans (h.heap hj)⟩
                · rw [← hW5]; exact h.os
                · rw [← hW5]; exact h.tape
                · rw [← hW5]; exact h.output
                · rw [← hW5]; have := h.size; simp only [heap_drew, size_set]; exact this
              exact ⟨k + 1, q, 0, q, by omega, by go_num, rfl, by omega, hqQ', ⟨h5.blk, h5.mp.mono (by omega), h5.okn, h5.okf, h5.okm⟩, hqQ, by omega, HNZ.out _ _, hk5⟩
            case measure => simp [intOf]; omega
          · go_region_held3 (fun w' => w'.cell? ⟨s, 5, none⟩ = some (.int .i64 (7 * ((k : Int) + 1))) ∧ w'.cell? ⟨s, 2, none⟩ = some (.int .i64 n)) (first | assumption | exact ⟨d5, d2⟩)
              ((go_at_call 12; refine (room_any s n _ (by omega) (And.right (by assumption))).mono ?_; rintro e w' ⟨rfl, rfl⟩))
            go_wp2
            go_roundw
            case rel =>
              have h := HI4.out.kept (show Kept W4.drew W4.drew.drew from (Below.refl _ _).drew)
              exact ⟨k + 1, q, 7 * (k + 1), q, by omega, by go_num, rfl, by omega, hqQ', ⟨h.blk, h.mp.mono (by omega), h.okn, h.okf, h.okm⟩, hqQ, by omega, HNZ.out _ _, Kept.trans HK4.out (Below.refl _ _).drew⟩
            case measure => simp [intOf]; omega
    · obtain rfl : k = G := by omega
      have hkz := hkw.size
      have hall := firstM_all HAT.out k (by rw [HFN.out.2.1]; have := HG.out; omega)
      rw [hall] at hI
      have HI := Lib.hid hI
      have HKK := Lib.hid hkw
      clear hI hkw hall
      go_wp2
      go_ret
      have h := HI.out
      obtain ⟨e1, e2, e3, e4⟩ := HFN.out
      subst e1 e2
      have hdw := HD.out.kept HKK.out
      have hsF : s ∉ F := fun hm => by have := HD.out.lt s hm; omega
      exact ⟨s, b, seq, hand, rfl, ⟨⟨h.blk, h.mp.mono (by omega), h.okn, h.okf, h.okm⟩, hdw, HR.out.kept HKK.out, hsF, hrF, hRs⟩, hsq, hhd, HZI.out, HKK.out, by omega, by omega⟩
end Go.Proofs.YtbhokalnkfdekaaDoor
