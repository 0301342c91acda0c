/- Package second: load, of a log's text. -/
import Derived.Test.YtbhokalnkfdekaaDoorSeck
namespace Go.Proofs.YtbhokalnkfdekaaDoor
open Go.RowKit
open Go.Proofs Go.Shelf Go.Maps
attribute [local go_sem] Oper.semAt_some

set_option maxRecDepth 100000 in
set_option maxHeartbeats 4000000 in
theorem load_ok (R : List Int) (s d b m g q : Nat) (S : Sc) (D : Dv) (F : List Nat) (l : List En) (w : World) (hR : Roots w R) (h : IsSc w s d b m S) (hd : Devs w d D F) (hg : g ≤ 512) (hm : m ≤ 900000) (hv : D.valid 1 ((S.from' : Int) + 8 * g)) (hl : D.lost 1 = false) (hws : D.ws.length ≤ 1000000000)
    (ht : D.get 1 ((S.from' : Int) + 8 * g) = encB R q l) (hok : OkB q l) (hown : ∀ x ∈ l, OwnE S.from' S.n g x) :
    Calls Tryd.prog 17 #[.pointer (some ⟨s, 0, none⟩), .int .i64 g] w fun e w' => ∃ (p : Option Addr) (c : Nat), e = .returned (.tuple #[.agg #[.int .i64 q, .slice p l.length c], .bool true]) ∧ IsSc w' s d b (m + l.length) { S with M := loadM S.from' g S.M l } ∧ Upd [b] w [b] w' := by
  have c0 := h.c0
  have c1 := h.c1
  have hlt := lt_blk h.blk
  have hfo := h.okf
  have hno := h.okn
  have hbl := h.mp.lt
  have hl7 := hok.2.1
  have hmm := @run_makeMap Tryd.prog
  obtain ⟨t, htt⟩ : ∃ t, D.get 1 ((S.from' : Int) + 8 * g) = t := ⟨_, rfl⟩
  rw [htt] at ht
  have H := Lib.hid h
  have HR := Lib.hid hR
  have HD := Lib.hid hd
  have HV := Lib.hid hv
  have HL := Lib.hid hl
  have HT := Lib.hid htt
  have HTE := Lib.hid ht
  have HOK := Lib.hid hok
  have HOWN := Lib.hid hown
  clear h hd hv hl htt ht hok hown hR
  refine (callsIn_wide (n := 9)).1 ?_
  refine callsIn_of_wp_marks Tryd.func17 rfl trivial ?_ rfl
  refine wpIn_wide.2 ?_
  simp only [Tryd.ntmps17, List.size_toArray, List.length_cons, List.length_nil, Nat.reduceAdd, Nat.reduceSub, Array.replicate_succ, Array.replicate_zero, List.push_toArray, List.append_toArray, List.nil_append, List.cons_append]
  go_wp2_with fail
  obtain ⟨w1, hw1⟩ : ∃ w1, w.alloc (.cells #[.int .i64 0, .slice none 0 0] 57) = w1 := ⟨_, rfl⟩
  have hA := alloc1 w (.cells #[.int .i64 0, .slice none 0 0] 57)
  rw [hw1] at hA ⊢
  obtain ⟨a0, hk1, hz1⟩ := hA
  have hkd : Kept w1 w1.drew := (Below.refl _ _).drew
  have hS := loadS (Kept.trans hk1 hkd) ⟨c0, c1⟩
  have hD1 : Devs w1.drew d D F := HD.out.kept (Kept.trans hk1 hkd)
  have HK1 := Lib.hid hk1
  have HKD := Lib.hid (Kept.trans hk1 hkd)
  have A0 := Lib.hid a0
  clear hw1 a0 hk1 c0 c1 hkd
  go_region_held3 (fun w' => w'.cell? ⟨s, 0, none⟩ = some (.pointer (some ⟨d, 0, none⟩)) ∧ w'.cell? ⟨s, 1, none⟩ = some (.int .i64 S.from')) (first | assumption | exact loadS (by assumption) (by assumption))
    (first
      | (go_at_call 34; refine (log_any s S.from' g _ hfo hg (And.right (by assumption))).mono ?_; rintro e w' ⟨rfl, hkl⟩; have hDl : Devs w' d D F := Devs.kept (by assumption) hkl)
      | (go_at_call 14; refine (read_ok d D F 1 _ _ (by assumption) HV.out HL.out hws).mono ?_; rintro e w' ⟨rfl, hkr⟩))
  rw [HT.out]
  have hkw : Kept w1 w' := Kept.trans (Below.drew (Below.refl _ _)) (Kept.trans hkl hkr)
  have hdec := decode_ok R t q l w' ((HR.out.kept HK1.out).kept hkw) HTE.out HOK.out
  have HDEC := Lib.hid hdec
  have HKW := Lib.hid hkw
  clear hdec hkw hkl hkr hDl hD1 hS
  go_wp2_with fail
  refine HDEC.out.mono ?_
  rintro e w2 ⟨v, rfl, hrow, hk2⟩
  obtain ⟨vp, vc, rfl⟩ := hrow.slice
  have hkk := Kept.trans HK1.out (Kept.trans HKW.out hk2)
  have q0 : w2.heap[w.heap.size]? = some (.cells #[.int .i64 0, .slice none 0 0] 57) := ((Kept.trans HKW.out hk2).heap (by omega)).trans A0.out
  have hz2 : w.heap.size < w2.heap.size := lt_blk q0
  have HKK := Lib.hid hkk
  have HROW := Lib.hid hrow
  have Q0 := Lib.hid q0
  clear hkk hk2 q0 HDEC hrow
  have hlL : (l.length : Int) ≤ 7 := by omega
  go_wp2_with fail
  refine (sectors_any s g _).mono ?_
  rintro e w' ⟨rfl, rfl⟩
  go_wp2_with fail
  obtain ⟨wL, hwL⟩ : ∃ wL, ((((w2.alloc (.cells #[.int .i64 q, .slice vp l.length vc] 57)).alloc (.map #[] 0)).alloc (.cells #[.map (some (w2.heap.size + 1))] 87)).alloc (.cells #[.pointer (some ⟨s, 0, none⟩)] 27)).alloc (.cells #[.int .i64 g] 3) = wL := ⟨_, rfl⟩
  have hL5 := alloc5 w2 _ _ _ _ _ wL hwL
  obtain ⟨e8, em, e10, es, eg, hkL, hzL⟩ := hL5
  rw [hwL]
  obtain ⟨gb, hgb⟩ : ∃ gb, w2.heap.size + 1 + 1 + 1 + 1 = gb := ⟨_, rfl⟩
  obtain ⟨sb, hsb⟩ : ∃ sb, w2.heap.size + 1 + 1 + 1 = sb := ⟨_, rfl⟩
  obtain ⟨q10, hq10⟩ : ∃ q, w2.heap.size + 1 + 1 = q := ⟨_, rfl⟩
  obtain ⟨ob, hob⟩ : ∃ ob, w2.heap.size + 1 = ob := ⟨_, rfl⟩
  obtain ⟨q8, hq8⟩ : ∃ q, w2.heap.size = q := ⟨_, rfl⟩
  obtain ⟨q4, hq4⟩ : ∃ q, w.heap.size = q := ⟨_, rfl⟩
  rw [hgb] at eg ⊢
  rw [hsb] at es ⊢
  rw [hq10] at e10 ⊢
  rw [hob] at em e10 ⊢
  rw [hq8] at e8 ⊢
  rw [hq4]
  have hIL := (H.out.kept HKK.out).kept hkL
  have hSL : Sees s gb sb S.from' S.n g wL := ⟨hIL.c1, hIL.c2, by rw [cell_blk eg]; rfl, by rw [cell_blk es]; rfl⟩
  have hM0 : Mp wL ob 0 (ownM S.from' g []) := Mp.empty em
  have hq4L : wL.heap[q4]? = some (.cells #[.int .i64 0, .slice none 0 0] 57) := by rw [← hq4]; exact (hkL.heap (by omega)).trans Q0.out
  have hobL : ob < wL.heap.size := by omega
  have hslt : s < wL.heap.size := lt_blk hIL.blk
  have hsq : s < q4 := by omega
  have hqq : q4 < q8 ∧ q8 + 1 = ob ∧ ob + 1 = q10 ∧ q10 + 1 = sb ∧ sb + 1 = gb ∧ gb + 1 = wL.heap.size := by omega
  have hbq : b < q4 := by omega
  have HQ := Lib.hid hqq
  have HQ4 := Lib.hid hq4
  have HIL := Lib.hid hIL
  have HROWL := Lib.hid (HROW.out.kept hkL)
  have HKL := Lib.hid hkL
  have E8 := Lib.hid e8
  have E10 := Lib.hid e10
  have Q4 := Lib.hid hq4L
  have HM0 := Lib.hid hM0
  have hUL : Upd [b] w [b] wL := Kept.upd (Kept.trans HKK.out hkL)
  have HUL := Lib.hid hUL
  have hseq' : SeqStopsK Fence.wide 8 Tryd.prog 36 #[.pointer (some ⟨gb, 0, none⟩), .pointer (some ⟨sb, 0, none⟩)] (encF S.from' g) (SeesK s gb sb S.from' S.n g) (fun ys => ys = secs S.n g) (fun pre => pre <+: secs S.n g) (secs S.n g).length wL :=
    fun l J Jx W hW hJ _ hY h0 => sectors1_in 8 l s gb sb S.from' S.n g _ (by omega) hfo hno (by omega) J Jx hJ hY W (hSL.below hW) h0
  clear hwL e8 em e10 es eg hkL hzL hgb hsb hq10 hob hq8 hq4 hIL hM0 hq4L hqq hUL hz2 hz1
  refine (wpIn_wide (n := 9)).1 ?_
  refine wpIn_frame (fun a0 ha0 => ?_)
  refine wpIn_rangeFunc_ownH rfl (by omega) (gf := 36) (lb := #[.pointer (some ⟨gb, 0, none⟩), .pointer (some ⟨sb, 0, none⟩)]) (by rw [ha0]; rfl) trivial (enters_of Tryd.func36 (by kernel_rfl) rfl) hseq' (fun h k x => k (h x)) (seesK_b hSL) (Below.refl _ _) (fun _ => rfl)
    (fun pre W => Mp W ob pre.length (ownM S.from' g pre) ∧ Upd [ob] wL [ob] W) (fun c _ _ => False)
    ?own (fun _ _ _ _ _ hs _ _ => hs) ⟨HM0.out, Upd.refl _ _⟩
    (fun x a' W => a' = assign2 a0 46 47 11 12 (.int .i64 (7 * g + x.val : Nat)) (.int .i64 (S.from' + 8 * g + 1 + x.val : Nat)))
    (fun _ _ _ _ _ _ hs _ _ => hs)
    ?assign ?body ?done ?stop
  case own =>
    rintro pre W W' row ⟨h1, h2⟩ hg hr
    exact ⟨h1.heap (hg.block ob h1.lt (fun e => by have := (hr ob e.symm).1; omega)), ownFrom_upd (β := Unit) (Nat.le_refl _) () W W' row h2 hg hr⟩
  case assign =>
    rintro l pre x W K hI hK
    have HI := Lib.hid hI
    subst ha0
    clear hI
    dsimp only [encF]
    gi_wp2
    exact hK _ _ (KeepsFrom.refl _ _) (fun h => h) HI.out rfl
  case body =>
    rintro l pre x a' W hl ⟨r, hr⟩ ⟨hM, hU⟩ rfl hlen
    subst ha0
    simp only [assign2, List.setIfInBounds_toArray, List.set_cons_zero, List.set_cons_succ]
    obtain ⟨p, hp⟩ : ∃ p, 7 * g + x.val = p := ⟨_, rfl⟩
    obtain ⟨a, ha⟩ : ∃ a, S.from' + 8 * g + 1 + x.val = a := ⟨_, rfl⟩
    rw [hp, ha]
    have hlx := x.isLt
    have hls := secs_length S.n g
    obtain ⟨W1, hrun, hM1, hg1⟩ := hM.store Tryd.underlying87 (by omega) (k := (a : Int)) (by unfold Wf; omega) (.int .i64 p)
    have y10 : W.cell? ⟨q10, 0, none⟩ = some (.map (some ob)) := by
      rw [World.cell?_of_block (a := ⟨q10, 0, none⟩) (hU.block q10 (by have := HQ.out; omega) (by have := HQ.out; simp; omega)), cell_blk E10.out]; rfl
    have hU1 : Upd [ob] W [ob] W1 := Upd.grown hg1 (fun k hk => by cases hk; simp)
    have HF := Lib.hid (And.intro hp (And.intro ha (And.intro hM1 (And.intro hU1 hU))))
    clear hp ha hM1 hU1 hU hM hg1
    gi_wp2
    obtain ⟨hp, ha, hM1, hU1, hU⟩ := HF.out
    refine ⟨hU1.keepsFrom (fun k hk => by simp at hk; subst hk; exact .inl hobL), ?_, ?_, hU.trans hU1⟩
    · exact fun hs => hs.upd hU1 (by have := HQ.out; simp; omega) (by have := HQ.out; simp; omega) (by have := HQ.out; simp; omega)
    · rw [ownM_snoc, ha, hp, List.length_append]; exact hM1
  case stop =>
    rintro Dd cd pre W hD hSp h hK
    exact h.elim
  case done =>
    rintro Dd xs W hD hS ⟨hM, hU⟩ hK
    subst hS
    subst ha0
    have hw : ∀ k, k < wL.heap.size → k ≠ ob → W.heap[k]? = wL.heap[k]? := fun k h1 h2 => hU.block k h1 (by simpa using h2)
    have x8 := (hw q8 (by have := HQ.out; omega) (by have := HQ.out; omega)).trans E8.out
    have x10 := (hw q10 (by have := HQ.out; omega) (by have := HQ.out; omega)).trans E10.out
    have y8 : W.cell? ⟨q8, 1, none⟩ = some (.slice vp l.length vc) := by rw [cell_blk x8]; rfl
    have y10 : W.cell? ⟨q10, 0, none⟩ = some (.map (some ob)) := by rw [cell_blk x10]; rfl
    have hrowW : Row W w'.heap.size (.slice vp l.length vc) l := by
      refine ownsRow_heap HROWL.out (fun k hk => hw k (World.ownsRow.lt HROWL.out k hk).2 (fun e => ?_))
      obtain ⟨cs, T, fz, hx⟩ := Row.isCells HROWL.out k hk
      obtain ⟨DD, ⟨es, ck, h1, _⟩, _⟩ := HM0.out
      rw [e, h1] at hx; cases hx
    have hlq : q8 < W.heap.size ∧ q10 < W.heap.size ∧ ob < W.heap.size := by have := HQ.out; have := hU.size; omega
    have HROWW := Lib.hid hrowW
    have HM := Lib.hid hM
    have HU := Lib.hid hU
    have HK := Lib.hid hK
    have HW := Lib.hid hw
    have X8 := Lib.hid x8
    have X10 := Lib.hid x10
    clear hrowW hM hU hK hw x8 x10 hseq' hSL hlq
    go_wp2_with fail
    obtain ⟨Lv, hLv⟩ : ∃ Lv, l.length = Lv := ⟨_, rfl⟩
    rw [hLv] at y8 hlL hl7 ⊢
    have HLV := Lib.hid hLv
    clear hLv y8
    have hat : ∀ x ∈ l, x.at' ≤ 511 := fun x hx => (HOK.out.2.2 x hx).2.2.2.2
    have HAT := Lib.hid hat
    clear hat
    go_loopw [54] (fun i wr => ∃ k : Nat, k ≤ Lv ∧ i = .int .i64 k ∧ Kept W wr) (fun i _ => Lv - (intOf i).toNat)
    case atStart => exact ⟨0, by omega, rfl, Kept.refl _⟩
    case round =>
      obtain ⟨k, hk, rfl, hkr⟩ := hrel
      by_cases hlk : k < Lv
      · obtain ⟨x, hx⟩ : ∃ x, l[k]? = some x := ⟨_, List.getElem?_eq_getElem (by have := HLV.out; omega)⟩
        have hxm := List.mem_of_getElem? hx
        obtain ⟨hpl, hown⟩ := (HOWN.out x hxm).place
        have hat := HAT.out x hxm
        obtain ⟨gv, rfl, _, hgv⟩ := HROWW.out.blk (by have := HLV.out; omega)
        obtain ⟨z0, z1, z2, z3⟩ := (HROWW.out.kept hkr).cells hx
        have y10' : wr.cell? ⟨q10, 0, none⟩ = some (.map (some ob)) := by rw [hkr.cell (World.block_lt_of_cell? W _ y10)]; exact y10
        have hsz := hkr.size
        have l10 : q10 < wr.heap.size := by have := World.block_lt_of_cell? W _ y10; simp only at this; omega
        have hka : Kept wr (wr.alloc (.cells #[.string x.key, .string x.sum, .int .i64 x.len, .int .i64 x.at'] 69)) := (Below.refl _ _).alloc (Nat.le_refl _) _
        have hlook := ((HM.out.kept hkr).kept hka).look_ok Tryd.underlying87 (Tryd.zeroValue3 _) (k := (x.at' : Int)) (by unfold Wf; omega)
        rw [hown] at hlook
        simp only [Option.getD_some, Option.isSome_some] at hlook
        have HX := Lib.hid (And.intro hx hown)
        have HKR := Lib.hid (Kept.trans hkr hka)
        clear hx hown hkr hka hxm
        go_wp2
        go_roundw
        case rel => exact ⟨k + 1, by omega, by go_num, HKR.out⟩
        case measure => simp [intOf]; omega
      · obtain rfl : k = Lv := by omega
        have HKR := Lib.hid hkr
        have x8 := (hkr.heap (lt_blk X8.out)).trans X8.out
        have y8 : wr.cell? ⟨q8, 1, none⟩ = some (.slice vp l.length vc) := by rw [cell_blk x8]; rfl
        rw [HLV.out] at y8
        have hlv : (k : Int) = l.length := by have := HLV.out; omega
        have HLQ := Lib.hid hlv
        clear hkr x8 hlv
        go_wp2_with fail
        obtain ⟨wo, rfl⟩ : ∃ wo : World, wo = wr := ⟨_, rfl⟩
        have hwo : Upd [ob] wL [ob] wo := HU.out.trans HKR.out.upd
        have hoL : ∀ k, k < wL.heap.size → k ≠ ob → wo.heap[k]? = wL.heap[k]? := fun k h1 h2 => hwo.block k h1 (by simpa using h2)
        have hSc : IsSc wo s d b m S := HIL.out.heap (hoL s hslt (by have := HQ.out; omega)) (hoL b (by have := HQ.out; omega) (by have := HQ.out; omega))
        have HSC := Lib.hid hSc
        have HWO := Lib.hid hwo
        have HOL := Lib.hid hoL
        have hwos : wL.heap.size ≤ wo.heap.size := hwo.size
        have HMO := Lib.hid (HM.out.kept HKR.out)
        have HRO := Lib.hid (HROWW.out.kept HKR.out)
        have HQ2 := HQ.out
        have HX10 := Lib.hid ((HKR.out.heap (lt_blk X10.out)).trans X10.out)
        have hbob : b ≠ ob := by omega
        have hbs : ¬ b = s := tell_ne HSC.out HSC.out.blk
        clear hwo hoL hSc y8 HM HROWW y10
        go_loopw [72] (fun i wr => ∃ j : Nat, j ≤ k ∧ i = .int .i64 j ∧ Mp wr b (m + j) (mapV (loadM S.from' g S.M (l.take j))) ∧ Upd [b] wo [b] wr) (fun i _ => k - (intOf i).toNat)
        case atStart => exact ⟨0, by omega, rfl, HSC.out.mp, Upd.refl _ _⟩
        case round =>
          obtain ⟨j, hj, rfl, hMr, hUr⟩ := hrel
          by_cases hjk : j < k
          · obtain ⟨x, hx⟩ : ∃ x, l[j]? = some x := ⟨_, List.getElem?_eq_getElem (by have := HLV.out; omega)⟩
            have hxm := List.mem_of_getElem? hx
            obtain ⟨hpl, hown⟩ := (HOWN.out x hxm).place
            have hat := HAT.out x hxm
            obtain ⟨gv, rfl, hgb, hgv⟩ := HRO.out.blk (by have := HLV.out; omega)
            have hrr : Row wr w'.heap.size (.slice (some ⟨gv, 0, none⟩) l.length vc) l := ownsRow_heap HRO.out (fun k' hk' => hUr.block k' (World.ownsRow.lt HRO.out k' hk').2 (by
              simp only [List.mem_cons, List.not_mem_nil, or_false]
              rintro rfl
              obtain ⟨cs, T, fz, hx⟩ := Row.isCells HRO.out k' hk'
              obtain ⟨DD, ⟨es, ck, h1, _⟩, _⟩ := HSC.out.mp
              rw [h1] at hx; cases hx))
            obtain ⟨z0, z1, z2, z3⟩ := hrr.cells hx
            have hsz := hUr.size
            obtain ⟨qx, hqx⟩ : ∃ qx, wr.heap.size = qx := ⟨_, rfl⟩
            obtain ⟨W2, hW2⟩ : ∃ W2, wr.alloc (.cells #[.string x.key, .string x.sum, .int .i64 x.len, .int .i64 x.at'] 69) = W2 := ⟨_, rfl⟩
            have hA := alloc1 wr (.cells #[.string x.key, .string x.sum, .int .i64 x.len, .int .i64 x.at'] 69)
            rw [hW2] at hA
            obtain ⟨a1, ka1, kz1⟩ := hA
            rw [hqx] at a1
            have ka2 : Kept wr W2.drew := Kept.trans ka1 (Below.refl _ _).drew
            have hlook := ((HMO.out.heap (hUr.block ob HMO.out.lt (by simpa using Ne.symm hbob))).kept ka2).look Tryd.underlying87 (Tryd.zeroValue3 _) (k := (x.at' : Int)) (by unfold Wf; omega)
            rw [hown] at hlook
            simp only [Option.getD_some] at hlook
            have hroom : roomN S.n ≤ 512 := by unfold roomN; omega
            obtain ⟨W3, hrun, hM3, hg3⟩ := (hMr.kept ka2).store Tryd.underlying53 (by omega) (k := (placeOf S.from' g x : Nat)) (by unfold Wf; omega) (.agg #[.string x.key, .string x.sum, .int .i64 x.len, .int .i64 x.at'])
            have hu3 : Upd [b] W2.drew [b] W3 := Upd.grown hg3 (fun k hk => by cases hk; simp)
            have hS0 : W2.drew.cell? ⟨s, 3, none⟩ = some (.map (some b)) ∧ W2.drew.cell? ⟨q10, 0, none⟩ = some (.map (some ob)) ∧ W2.drew.cell? ⟨qx, 0, none⟩ = some (.string x.key) ∧ W2.drew.cell? ⟨qx, 1, none⟩ = some (.string x.sum) ∧ W2.drew.cell? ⟨qx, 2, none⟩ = some (.int .i64 x.len) ∧ W2.drew.cell? ⟨qx, 3, none⟩ = some (.int .i64 x.at') := by
              have e3 := (hUr.block s (by omega) (by simp; omega)).trans HSC.out.blk
              have e10 := (hUr.block q10 (by omega) (by simp; omega)).trans HX10.out
              refine ⟨?_, ?_, ?_, ?_, ?_, ?_⟩
              · rw [cell_blk ((ka2.heap (by omega)).trans e3)]; rfl
              · rw [cell_blk ((ka2.heap (by omega)).trans e10)]; rfl
              · rw [cell_blk (w := W2.drew) a1]; rfl
              · rw [cell_blk (w := W2.drew) a1]; rfl
              · rw [cell_blk (w := W2.drew) a1]; rfl
              · rw [cell_blk (w := W2.drew) a1]; rfl
            have hS3 := set6_kept hu3 (by simp; omega) (by simp; omega) (by simp; omega) hS0
            have htk : l.take (j + 1) = l.take j ++ [x] := by rw [List.take_add_one, hx]; rfl
            have hM4 : Mp W3 b (m + (j + 1)) (mapV (loadM S.from' g S.M (l.take (j + 1)))) := by
              rw [htk, loadM_snoc]
              have := hM3
              rw [show (Value.agg #[.string x.key, .string x.sum, .int .i64 x.len, .int .i64 x.at']) = enV x from rfl, mapV_set] at this
              exact this
            have HF := Lib.hid (And.intro hM4 ((hUr.trans ka2.upd).trans hu3))
            have HQX := Lib.hid hqx
            have HW2 := Lib.hid hW2
            clear hM3 hM4 hu3 hg3 hx hown htk hMr hUr ka1 ka2 a1 kz1 hqx hW2 hrr hxm
            go_wp2_with fail
            rw [show wr.alloc (.cells #[.string x.key, .string x.sum, .int .i64 x.len, .int .i64 x.at'] 69) = W2 from HW2.out, show wr.heap.size = qx from HQX.out]
            go_region_held3 (fun w' => w'.cell? ⟨s, 3, none⟩ = some (.map (some b)) ∧ w'.cell? ⟨q10, 0, none⟩ = some (.map (some ob)) ∧ w'.cell? ⟨qx, 0, none⟩ = some (.string x.key) ∧ w'.cell? ⟨qx, 1, none⟩ = some (.string x.sum) ∧ w'.cell? ⟨qx, 2, none⟩ = some (.int .i64 x.len) ∧ w'.cell? ⟨qx, 3, none⟩ = some (.int .i64 x.at')) (assumption) (fail)
            go_wp2
            go_roundw
            case rel => exact ⟨j + 1, by omega, by go_num, HF.out.1, HF.out.2⟩
            case measure => simp [intOf]; omega
          · obtain rfl : j = k := by omega
            have htk : l.take j = l := List.take_of_length_le (by have := HLV.out; omega)
            rw [htk] at hMr
            have e8 := (hUr.block q8 (by omega) (by simp; omega)).trans ((HOL.out q8 (by omega) (by omega)).trans E8.out)
            have e4 := (hUr.block q4 (by omega) (by simp; omega)).trans ((HOL.out q4 (by omega) (by omega)).trans Q4.out)
            have y80 : wr.cell? ⟨q8, 0, none⟩ = some (.int .i64 q) := by rw [cell_blk e8]; rfl
            have y81 : wr.cell? ⟨q8, 1, none⟩ = some (.slice vp l.length vc) := by rw [cell_blk e8]; rfl
            have y40 : wr.cell? ⟨q4, 0, none⟩ = some (.int .i64 0) := by rw [cell_blk e4]; rfl
            have y41 : wr.cell? ⟨q4, 1, none⟩ = some (.slice none 0 0) := by rw [cell_blk e4]; rfl
            have f40 : wr.frozen? ⟨q4, 0, none⟩ = false := frozen_blk e4
            have f41 : wr.frozen? ⟨q4, 1, none⟩ = false := frozen_blk e4
            have l4 := lt_blk e4
            have HMR := Lib.hid hMr
            have HUR := Lib.hid hUr
            have E4 := Lib.hid e4
            clear hMr hUr htk e8 e4
            go_wp2
            obtain ⟨W5, hW5⟩ : ∃ W5, (wr.setCell ⟨q4, 0, none⟩ (.int .i64 q)).setCell ⟨q4, 1, none⟩ (.slice vp l.length vc) = W5 := ⟨_, rfl⟩
            rw [hW5]
            have hn5 : ∀ k, k ≠ q4 → W5.heap[k]? = wr.heap[k]? := fun k hk => by rw [← hW5, heap_set_ne _ _ _ _ _ hk, heap_set_ne _ _ _ _ _ hk]
            have hq5 : W5.heap[q4]? = some (.cells #[.int .i64 q, .slice vp l.length vc] 57 (0, 0)) := by
              rw [← hW5, heap_set_eq _ _ _ _ (heap_set_eq _ _ _ _ E4.out)]; simp
            have hWs : wL.heap.size ≤ W.heap.size := HU.out.size
            have hDb : Dd ≠ b := by omega
            have hDd : W5.heap[Dd]? = some (.deferred (some [])) := by
              have l1 := lt_blk HK.out
              have l2 := HKR.out.size
              rw [hn5 Dd (by omega), HUR.out.block Dd (by omega) (by simpa using hDb), HKR.out.heap l1]
              exact HK.out
            refine ⟨by simp, .inl ⟨_, _, rfl, run_takeDeferred hDd, ?_⟩⟩
            have g1 : ∀ k, k ≠ Dd → (W5.putObj Dd (.deferred none)).heap[k]? = W5.heap[k]? := fun k hk => World.putObj_heap_other hk
            have r4 := (g1 q4 (by omega)).trans hq5
            refine ⟨.tuple #[.agg #[.int .i64 q, .slice vp l.length vc], .bool true], ?_, _, _, rfl, ?_, ?_⟩
            · have c40 : (W5.putObj Dd (.deferred none)).cell? ⟨q4, 0, none⟩ = some (.int .i64 q) := by rw [cell_blk r4]; rfl
              have c41 : (W5.putObj Dd (.deferred none)).cell? ⟨q4, 1, none⟩ = some (.slice vp l.length vc) := by rw [cell_blk r4]; rfl
              simp [results, Tryd.results17, go_sem, c40, c41]
            · have hs := ((g1 s (by omega)).trans (hn5 s (by omega))).trans ((HUR.out.block s (by omega) (by simp; omega)).trans HSC.out.blk)
              have hM := HMR.out.heap ((g1 b (Ne.symm hDb)).trans (hn5 b (by omega)))
              rw [HLV.out]
              refine ⟨hs, hM, hno, hfo, fun p x hx => ?_⟩
              exact loadM_ok (fun x hx => ⟨(HOWN.out x hx).place.1, HOK.out.2.2 x hx⟩) H.out.okm p x hx
            · have hU6 := HUL.out
              refine Upd.putObj ?_ (by have := HUL.out.size; omega) _
              refine ⟨?_, ?_, ?_, ?_, ?_, fun k hk => .inl hk⟩
              · rw [← hW5]; exact HUR.out.os.trans (HWO.out.os.trans hU6.os)
              · rw [← hW5]; exact HUR.out.tape.trans (HWO.out.tape.trans hU6.tape)
              · rw [← hW5]; exact HUR.out.output.trans (HWO.out.output.trans hU6.output)
              · rw [← hW5, size_set, size_set]; have := hU6.size; have := HUR.out.size; omega
              · intro k hk hkb
                have := hU6.size
                simp only [List.mem_cons, List.not_mem_nil, or_false] at hkb
                have hkq := HQ4.out
                rw [hn5 k (by omega), HUR.out.block k (by omega) (by simpa using hkb), HOL.out k (by omega) (by omega)]
                exact hU6.block k hk (by simpa using hkb)
end Go.Proofs.YtbhokalnkfdekaaDoor
