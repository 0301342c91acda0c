/- Package second: Feed of a new key. -/
import Derived.Test.YtbhokalnkfdekaaDoorSecs
namespace Go.Proofs.YtbhokalnkfdekaaDoor
open Go.RowKit
open Go.Proofs Go.Shelf Go.Maps
attribute [local go_sem] Oper.semAt_some

/-- the frame behind the assignment of a range's two variables -/
def assign2 (a : Act) (p1 p2 d1 d2 : Nat) (v1 v2 : Value) : Act := { tmps := (((a.tmps.setIfInBounds p1 v1).setIfInBounds p2 v2).setIfInBounds d1 v1).setIfInBounds d2 v2, defers := [] }
theorem wpIn_frame {F : Fence} {n : Nat} {P : Program} {c : Code} {Q : Exit → Act → World → Prop} {a : Act} {w : World} (h : ∀ a', a' = a → c.wpIn F n P Q a' w) : c.wpIn F n P Q a w := h a rfl

set_option maxRecDepth 100000 in
set_option maxHeartbeats 4000000 in
theorem feednew_any (R : List Int) (s d b m : Nat) (S : Sc) (D : Dv) (F : List Nat) (key load : ByteArray) (w : World) (h : Cach R w s d b m S D F) (hfit : Fit S D) (hws : D.ws.length ≤ 900) (hm : m ≤ 900000) (hseq : S.seq ≤ 900000) (hh : S.hand < roomN S.n) (hgood : goodFeed key load) (hf : findP S key = none) :
    Calls Tryd.prog 9 #[.pointer (some ⟨s, 0, none⟩), .string key, .string load] w fun e w' => e = .returned (.bool true) ∧ ∃ F', Cach R w' s d b (m + 1) (feedN R key load (S, D)).1 (feedN R key load (S, D)).2 F' ∧ Upd (s :: b :: F) w (s :: b :: F') w' := by
  obtain ⟨hk1, hk60, hl960⟩ := hgood
  have hkn := key_ne key hk1
  have q1 : ¬ (60 : Int) < key.size := by omega
  have q2 : ¬ (960 : Int) < load.size := by omega
  have hl := hfit.lost
  have c0 := h.sc.c0
  have c5 := h.sc.c5
  have hlt := lt_blk h.sc.blk
  have hkk : ∀ a a' a'' : Obj, Kept w (((w.alloc a).alloc a').alloc a'') := fun a a' a'' => (by repeat (first | exact Below.refl _ _ | assumption | refine Below.drewN ?_ _ | refine Below.drew ?_ | (refine Below.alloc' _ ?_ ?_; (focus ((first | omega | (simp; done) | (simp; omega))))) | (refine Below.setCell' _ ?_ ?_; (focus ((first | omega | (simp; done) | (simp; omega)))))))
  have ck : ∀ a a' a'' : Obj, (((w.alloc a).alloc a').alloc a'').cell? ⟨s, 0, none⟩ = some (.pointer (some ⟨d, 0, none⟩)) := fun a a' a'' => ((hkk a a' a'').cell (p := ⟨s, 0, none⟩) hlt).trans c0
  have hke : key.toList.isEmpty = false := by simpa using hkn
  have H := Lib.hid h
  have HL := Lib.hid hl
  have HF := Lib.hid hf
  have HFIT := Lib.hid hfit
  clear h hl hf hfit
  refine (callsIn_wide (n := 9)).1 ?_
  refine callsIn_of_wp_marks Tryd.func9 rfl trivial ?_ rfl
  refine wpIn_wide.2 ?_
  simp only [Tryd.ntmps9, List.size_toArray, List.length_cons, List.length_nil, Nat.reduceAdd, Nat.reduceSub, Array.replicate_succ, Array.replicate_zero, List.push_toArray, List.append_toArray, List.nil_append, List.cons_append]
  go_wp2_with (first
    | (go_at_call 18; refine (lost_any d D F 1 _ (H.out.dv.kept (by repeat (first | exact Below.refl _ _ | assumption | refine Below.drewN ?_ _ | refine Below.drew ?_ | (refine Below.alloc' _ ?_ ?_; (focus ((first | omega | (simp; done) | (simp; omega))))) | (refine Below.setCell' _ ?_ ?_; (focus ((first | omega | (simp; done) | (simp; omega))))))))).mono ?_; rintro e w' ⟨rfl, rfl⟩; rw [HL.out]))
  have hc := find_any s d b m S key _ (H.out.sc.kept (hkk (.cells #[.pointer (some ⟨s, 0, none⟩)] 27) (.cells #[.string key] 9) (.cells #[.string load] 9))) (by omega)
  rw [HF.out] at hc
  simp only [foundV] at hc
  refine hc.mono ?_
  rintro e w1 ⟨rfl, hk⟩
  have hA := alloc3 w (.cells #[.pointer (some ⟨s, 0, none⟩)] 27) (.cells #[.string key] 9) (.cells #[.string load] 9)
  obtain ⟨a0, a1, a2, hkA, hzA⟩ := hA
  have hz1 := hk.size
  rw [hzA] at hz1
  have k0 := (hk.heap (k := w.heap.size) (by omega)).trans a0
  have k1 := (hk.heap (k := w.heap.size + 1) (by omega)).trans a1
  have k2 := (hk.heap (k := w.heap.size + 1 + 1) (by omega)).trans a2
  have hC1 := H.out.kept (Kept.trans hkA hk)
  have p0 : w1.cell? ⟨w.heap.size, 0, none⟩ = some (.pointer (some ⟨s, 0, none⟩)) := by rw [cell_blk k0]; rfl
  have p5 : w1.cell? ⟨s, 5, none⟩ = some (.int .i64 S.hand) := hC1.sc.c5
  have HC1 := Lib.hid hC1
  have HK1 := Lib.hid (Kept.trans hkA hk)
  have K0 := Lib.hid k0
  have K1 := Lib.hid k1
  have K2 := Lib.hid k2
  have n0 : w.heap.size < w1.heap.size := by omega
  have n1 : s < w1.heap.size := by omega
  have hn512 := H.out.sc.okn
  have hh512 : (S.hand : Int) ≤ 512 := by unfold roomN at hh; omega
  clear hc hk a0 a1 a2 hkA hC1 k0 k1 k2 hzA hkk ck c0 c5
  go_wp2_with fail
  obtain ⟨g, hg⟩ : ∃ g, S.hand / 7 = g := ⟨_, rfl⟩
  have hgi : (S.hand : Int) / 7 = (g : Int) := by omega
  rw [hgi]
  have hg72 : g ≤ 72 := by unfold roomN at hh; omega
  have HG := Lib.hid hg
  clear hg hgi
  refine (sectors_any s g _).mono ?_
  rintro e w' ⟨rfl, rfl⟩
  go_wp2_with fail
  obtain ⟨wL, hwL⟩ : ∃ wL, ((w1.alloc (.cells #[.int .i64 g] 3)).alloc (.cells #[.pointer (some ⟨s, 0, none⟩)] 27)).alloc (.cells #[.int .i64 g] 3) = wL := ⟨_, rfl⟩
  have hL := alloc3 w1 (.cells #[.int .i64 g] 3) (.cells #[.pointer (some ⟨s, 0, none⟩)] 27) (.cells #[.int .i64 g] 3)
  rw [hwL] at hL ⊢
  obtain ⟨e3, e4, e5, hkL, hzL⟩ := hL
  have hgq : Bxs wL s w.heap.size (w.heap.size + 1) (w.heap.size + 1 + 1) w1.heap.size (w1.heap.size + 1) (w1.heap.size + 1 + 1) g key load := by
    refine ⟨?_, ?_, ?_, ?_, ?_, ?_⟩
    · rw [cell_blk ((hkL.heap (by omega)).trans K0.out)]; rfl
    · rw [cell_blk ((hkL.heap (by omega)).trans K1.out)]; rfl
    · rw [cell_blk ((hkL.heap (by omega)).trans K2.out)]; rfl
    · rw [cell_blk e3]; rfl
    · rw [cell_blk e4]; rfl
    · rw [cell_blk e5]; rfl
  have hCL := HC1.out.kept hkL
  have hnq : ∀ k ∈ [w.heap.size, w.heap.size + 1, w.heap.size + 1 + 1, w1.heap.size, w1.heap.size + 1, w1.heap.size + 1 + 1], k ∉ s :: b :: F := by
    intro k hk hm
    have := H.out.lt k hm
    simp only [List.mem_cons, List.not_mem_nil, or_false] at hk
    omega
  rw [show w1.heap.size + 3 = w1.heap.size + 1 + 1 + 1 from rfl] at hzL
  obtain ⟨gb, hgb⟩ : ∃ gb, w1.heap.size + 1 + 1 = gb := ⟨_, rfl⟩
  obtain ⟨sb, hsb⟩ : ∃ sb, w1.heap.size + 1 = sb := ⟨_, rfl⟩
  obtain ⟨q3, hq3⟩ : ∃ q, w1.heap.size = q := ⟨_, rfl⟩
  obtain ⟨q2, hq2⟩ : ∃ q, w.heap.size + 1 + 1 = q := ⟨_, rfl⟩
  obtain ⟨q1, hq1⟩ : ∃ q, w.heap.size + 1 = q := ⟨_, rfl⟩
  obtain ⟨q0, hq0⟩ : ∃ q, w.heap.size = q := ⟨_, rfl⟩
  rw [hgb, hsb, hq3, hq2, hq1, hq0] at hgq hnq
  rw [hgb, hsb, hq3, hq2, hq1, hq0]
  have hU0 : Upd (s :: b :: F) w (s :: b :: F) wL := Kept.upd (Kept.trans HK1.out hkL)
  have hst0 : Stt R wL (s :: b :: F) q0 q1 q2 q3 sb gb g key load wL s d b m S D F := ⟨hCL, hgq, Upd.refl _ _, hnq⟩
  have HST0 := Lib.hid hst0
  have HU0 := Lib.hid hU0
  have HWL := Lib.hid hwL
  have hSL := hst0.sees
  have hbl : b < wL.heap.size := hCL.sc.mp.lt
  have hcs := hCL.sc.okf
  obtain ⟨i0, hi0⟩ : ∃ i0 : Fin 7, i0.val = S.hand % 7 := ⟨⟨S.hand % 7, by omega⟩, rfl⟩
  have hhand : S.hand = 7 * g + i0.val := by have := HG.out; omega
  have hseq' : SeqStopsK Fence.wide 8 Tryd.prog 36 #[.pointer (some ⟨gb, 0, none⟩), .pointer (some ⟨sb, 0, none⟩)] (encF S.from' g) (SeesK s gb sb S.from' S.n g) (fun ys => ys = secs S.n g) (fun pre => pre <+: secs S.n g) (secs S.n g).length wL :=
    fun l J Jx W hW hJ _ hY h0 => sectors1_in 8 l s gb sb S.from' S.n g _ (by omega) hcs hn512 (by omega) J Jx hJ hY W (hSL.below hW) h0
  have HHAND := Lib.hid hhand
  have HI0 := Lib.hid hi0
  have HZL := Lib.hid hzL
  have HQ := Lib.hid (And.intro hgb (And.intro hsb (And.intro hq3 (And.intro hq2 (And.intro hq1 hq0)))))
  have hB0 : ∀ k ∈ s :: b :: F, k < wL.heap.size := fun k hk => HST0.out.c.lt k hk
  have HB0 := Lib.hid hB0
  clear hU0 hst0 hwL e3 e4 e5 hgq hnq hCL hi0 hhand hzL hgb hsb hq3 hq2 hq1 hq0 hB0 p0 p5
  refine (wpIn_wide (n := 9)).1 ?_
  refine wpIn_frame (fun a0 ha0 => ?_)
  refine wpIn_rangeFunc_ownH rfl (by omega) (gf := 36) (lb := #[.pointer (some ⟨gb, 0, none⟩), .pointer (some ⟨sb, 0, none⟩)]) (by rw [ha0]; rfl) trivial (enters_of Tryd.func36 (by kernel_rfl) rfl) hseq' (fun h k x => k (h x)) (seesK_b hSL) (Below.refl _ _) (fun _ => rfl)
    (fun pre W => ∃ F', Stt R wL (s :: b :: F) q0 q1 q2 q3 sb gb g key load W s d b (m + pre.count i0) (feedI R g i0 key load (pre.count i0) (S, D)).1 (feedI R g i0 key load (pre.count i0) (S, D)).2 F') (fun c _ _ => False)
    ?own (fun _ _ _ _ _ hs _ _ => hs) ⟨F, HST0.out⟩
    (fun x a' W => a' = assign2 a0 50 51 10 11 (.int .i64 (7 * g + x.val : Nat)) (.int .i64 (S.from' + 8 * g + 1 + x.val : Nat)))
    (fun _ _ _ _ _ _ hs _ _ => hs)
    ?assign ?body ?done ?stop
  case own =>
    rintro pre W W' row ⟨F', h⟩ hg hr
    exact ⟨F', h.grown hg hr hbl⟩
  case assign =>
    rintro l pre x W K hI hK
    have HI := Lib.hid hI
    subst ha0
    clear hI
    dsimp only [encF]
    gi_wp2
    exact hK _ _ (KeepsFrom.refl _ _) (fun h => h) HI.out rfl
  case body =>
    rintro l pre x a' W hl ⟨r, hr⟩ ⟨F1, hst⟩ rfl hlen
    subst ha0
    simp only [assign2, List.setIfInBounds_toArray, List.set_cons_zero, List.set_cons_succ]
    obtain ⟨p, hp⟩ : ∃ p, 7 * g + x.val = p := ⟨_, rfl⟩
    obtain ⟨a, ha⟩ : ∃ a, S.from' + 8 * g + 1 + x.val = a := ⟨_, rfl⟩
    rw [hp, ha]
    obtain ⟨hF1, hF2, hF3, hF4, hF5, hF6⟩ := feedI_facts (R := R) (g := g) (i := i0) (key := key) (load := load) (T := (S, D)) HFIT.out hws (pre.count i0)
    have hcnt : pre.count i0 ≤ 7 := by
      have h1 := List.count_le_length (a := i0) (l := pre)
      have h2 := secs_length S.n g
      omega
    by_cases hx : x = i0
    · subst hx
      have hcx : (pre ++ [x]).count x = pre.count x + 1 := by simp
      obtain ⟨T, hT⟩ : ∃ T, feedI R g x key load (pre.count x) (S, D) = T := ⟨_, rfl⟩
      have hT1 : feedI R g x key load (pre.count x + 1) (S, D) = feed1 R g x key load T := by rw [← hT]; rfl
      rw [hT] at hst hF1 hF2 hF3 hF4 hF5 hF6
      obtain ⟨c, hc⟩ : ∃ c, pre.count x = c := ⟨_, rfl⟩
      rw [hc] at hst hcnt hF4 hT1 hcx
      have hroom : roomN S.n ≤ 512 := by unfold roomN; omega
      have hhand : T.1.hand = p := by have := HHAND.out; simp only at hF3; omega
      have hpr : p < roomN T.1.n := by have := HHAND.out; simp only at hF2; rw [hF2]; omega
      have hst0 : Stt R W (s :: b :: F1) q0 q1 q2 q3 sb gb g key load W s d b (m + c) T.1 T.2 F1 := ⟨hst.c, hst.x, Upd.refl _ _, hst.n⟩
      obtain ⟨W1, hrun1, hst1⟩ := drop_st hst0 p (by simp only at hF2; rw [hF2] at hpr; omega) 0
      obtain ⟨y0, y1, y2, y3, y4, y5, y6⟩ := hst0.facts
      rw [hhand] at y6
      obtain ⟨z0, z1, z2, z3, z4, z5, z6⟩ := hst1.facts
      have hfit1 : Fit { T.1 with M := dropM T.1.M p } T.2 := hF5.cast rfl rfl
      have hseq1 : T.1.seq ≤ 900100 := by simp only at hF4; omega
      have hai : a < T.1.from' + T.1.n := by have := place_in (n := T.1.n) (g := g) (i := x.val) x.isLt (by omega); simp only at hF1; omega
      have ha511 : a ≤ 511 := by have := hF5.reg; have := hF5.len; omega
      have hae : a = T.1.from' + 8 * g + 1 + x.val := by simp only at hF1; omega
      have hgr : 7 * g < roomN T.1.n := by omega
      have htl := tell_st hst1 hfit1 (by exact hgr) (by show T.1.seq ≤ _; omega)
      have HST1 := Lib.hid hst1
      have HFT := Lib.hid hF5
      have HF6 := Lib.hid hF6
      have HTL := Lib.hid htl
      have HST := Lib.hid hst
      have HC := Lib.hid hcx
      have HT1 := Lib.hid hT1
      have HT := Lib.hid hT
      have HCC := Lib.hid hc
      have HAE := Lib.hid hae
      have HP := Lib.hid hp
      have HA := Lib.hid ha
      clear htl hst hst0 hst1 hF1 hF2 hF3 hF4 hF5 hF6 hcx hT hT1 hc hhand hae hp ha hfit1
      gi_wp2_with fail
      refine ⟨trivial, ?_⟩
      refine (CallsIn.inRound l (callsIn_wide.2 HTL.out)).mono ?_
      rintro e W2 ⟨rfl, F2, hst2⟩
      have HFL := Lib.hid (flush_st hst2)
      obtain ⟨y0, y1, y2, y3, y4, y5, y6⟩ := hst2.facts
      clear HTL hst2 z0 z1 z2 z3 z4 z5 z6
      gi_wp2_with fail
      refine ⟨trivial, ?_⟩
      refine (CallsIn.inRound l (callsIn_wide.2 HFL.out)).mono ?_
      rintro e W3 ⟨rfl, F3, hst3⟩
      have hst4 := hst3.keep (show Kept W3 W3.drew from (Below.refl _ _).drew)
      have HWR := Lib.hid (write_st hst4 (((HFT.out.write _ _ (by have := HF6.out; omega)).flush).cast rfl rfl) a (by exact hai) load (by omega))
      obtain ⟨y0, y1, y2, y3, y4, y5, y6⟩ := hst4.facts
      clear HFL hst3 hst4
      gi_wp2_with fail
      refine wpIn_region_round (S := fun w' => w'.cell? ⟨q0, 0, none⟩ = some (.pointer (some ⟨s, 0, none⟩)) ∧ w'.cell? ⟨q2, 0, none⟩ = some (.string load) ∧ w'.cell? ⟨s, 0, none⟩ = some (.pointer (some ⟨d, 0, none⟩))) (by kernel_rfl) (by kernel_rfl) ⟨y0, y2, y4⟩ (fun hHeld => ?_)
      refine wpAnyH_take (i := 0) (v := ?_) rfl (by kernel_rfl) (by kernel_rfl) (by kernel_rfl) (fun _ _ _ h => h) (Or.inl ⟨by rfl, ?_⟩) (by assumption) ?_
      rotate_left
      · (intro w hSw; (try dsimp only at hSw); go_simp; (try with_reducible rfl))
      try simp only [Act.put, List.setIfInBounds_toArray, List.set_cons_zero, List.set_cons_succ]
      refine wpAnyH_take (i := 1) (v := ?_) rfl (by kernel_rfl) (by kernel_rfl) (by kernel_rfl) (fun _ _ _ h => h) (Or.inl ⟨by rfl, ?_⟩) (by assumption) ?_
      rotate_left
      · (intro w hSw; (try dsimp only at hSw); go_simp; (try with_reducible rfl))
      try simp only [Act.put, List.setIfInBounds_toArray, List.set_cons_zero, List.set_cons_succ]
      refine wpAnyH_take (i := 2) (v := ?_) rfl (by kernel_rfl) (by kernel_rfl) (by kernel_rfl) (fun _ _ _ h => h) (Or.inl ⟨by rfl, ?_⟩) (by assumption) ?_
      rotate_left
      · (intro w hSw; (try dsimp only at hSw); go_simp; (try with_reducible rfl))
      try simp only [Act.put, List.setIfInBounds_toArray, List.set_cons_zero, List.set_cons_succ]
      refine wpAnyH_take (i := 3) (v := ?_) rfl (by kernel_rfl) (by kernel_rfl) (by kernel_rfl) (fun _ _ _ h => h) (Or.inl ⟨by rfl, ?_⟩) (by assumption) ?_
      rotate_left
      · (intro w hSw; (try dsimp only at hSw); go_simp; (try with_reducible rfl))
      try simp only [Act.put, List.setIfInBounds_toArray, List.set_cons_zero, List.set_cons_succ]
      refine wpAnyH_take (i := 4) (v := ?_) rfl (by kernel_rfl) (by kernel_rfl) (by kernel_rfl) (fun _ _ _ h => h) (Or.inl ⟨by rfl, ?_⟩) (by assumption) ?_
      rotate_left
      · (intro w hSw; (try dsimp only at hSw); go_simp; (try with_reducible rfl))
      try simp only [Act.put, List.setIfInBounds_toArray, List.set_cons_zero, List.set_cons_succ]
      refine wpAnyH_take (i := 5) (v := ?_) rfl (by kernel_rfl) (by kernel_rfl) (by kernel_rfl) (fun _ _ _ h => h) (Or.inl ⟨by rfl, ?_⟩) (by assumption) ?_
      rotate_left
      · (intro w hSw; (try dsimp only at hSw); go_simp; (try with_reducible rfl))
      try simp only [Act.put, List.setIfInBounds_toArray, List.set_cons_zero, List.set_cons_succ]
      refine wpAnyH_take (i := 6) (v := ?_) rfl (by kernel_rfl) (by kernel_rfl) (by kernel_rfl) (fun _ _ _ h => h) (Or.inl ⟨by rfl, ?_⟩) (by assumption) ?_
      rotate_left
      · (intro w hSw; (try dsimp only at hSw); go_simp; (try with_reducible rfl))
      try simp only [Act.put, List.setIfInBounds_toArray, List.set_cons_zero, List.set_cons_succ]
      refine wpAnyH_ready (rs := [7]) (by kernel_rfl) (by simp) ?_
      refine AllReadyH.cons rfl (fun K hK => ?_) AllReadyH.nil
      go_simp
      refine HWR.out.mono ?_
      rintro e W5 ⟨rfl, F5, hst5⟩
      have HFL := Lib.hid (flush_st hst5)
      obtain ⟨y0, y1, y2, y3, y4, y5, y6⟩ := hst5.facts
      clear HWR hst5
      go_wp2_with fail
      refine hK.out _ _ ⟨y0, y2, y4⟩ (fun hHeld => ?_)
      clear hK K
      refine wpAnyH_done (by kernel_rfl) ?_ _
      dsimp only [OnlyN, Exit.then]
      gi_wp2_with fail
      refine ⟨trivial, ?_⟩
      refine (CallsIn.inRound l (callsIn_wide.2 HFL.out)).mono ?_
      rintro e W6 ⟨rfl, F6, hst6⟩
      have hst7 := hst6.keep (show Kept W6 W6.drew from (Below.refl _ _).drew)
      have HOF := Lib.hid (sumof_any R load W6.drew hst7.c.rt (by omega))
      have HST7 := Lib.hid hst7
      obtain ⟨y0, y1, y2, y3, y4, y5, y6⟩ := hst7.facts
      clear HFL hst6 hst7
      gi_wp2_with fail
      refine wpIn_region_round (S := fun w' => w'.cell? ⟨q0, 0, none⟩ = some (.pointer (some ⟨s, 0, none⟩)) ∧ w'.cell? ⟨q1, 0, none⟩ = some (.string key) ∧ w'.cell? ⟨q2, 0, none⟩ = some (.string load) ∧ w'.cell? ⟨s, 3, none⟩ = some (.map (some b))) (by kernel_rfl) (by kernel_rfl) ⟨y0, y1, y2, y5⟩ (fun hHeld => ?_)
      refine wpAnyH_take (i := 0) (v := ?_) rfl (by kernel_rfl) (by kernel_rfl) (by kernel_rfl) (fun _ _ _ h => h) (Or.inl ⟨by rfl, ?_⟩) (by assumption) ?_
      rotate_left
      · (intro w hSw; (try dsimp only at hSw); go_simp; (try with_reducible rfl))
      try simp only [Act.put, List.setIfInBounds_toArray, List.set_cons_zero, List.set_cons_succ]
      refine wpAnyH_take (i := 1) (v := ?_) rfl (by kernel_rfl) (by kernel_rfl) (by kernel_rfl) (fun _ _ _ h => h) (Or.inl ⟨by rfl, ?_⟩) (by assumption) ?_
      rotate_left
      · (intro w hSw; (try dsimp only at hSw); go_simp; (try with_reducible rfl))
      try simp only [Act.put, List.setIfInBounds_toArray, List.set_cons_zero, List.set_cons_succ]
      refine wpAnyH_take (i := 2) (v := ?_) rfl (by kernel_rfl) (by kernel_rfl) (by kernel_rfl) (fun _ _ _ h => h) (Or.inl ⟨by rfl, ?_⟩) (by assumption) ?_
      rotate_left
      · (intro w hSw; (try dsimp only at hSw); go_simp; (try with_reducible rfl))
      try simp only [Act.put, List.setIfInBounds_toArray, List.set_cons_zero, List.set_cons_succ]
      refine wpAnyH_take (i := 3) (v := ?_) rfl (by kernel_rfl) (by kernel_rfl) (by kernel_rfl) (fun _ _ _ h => h) (Or.inl ⟨by rfl, ?_⟩) (by assumption) ?_
      rotate_left
      · (intro w hSw; (try dsimp only at hSw); go_simp; (try with_reducible rfl))
      try simp only [Act.put, List.setIfInBounds_toArray, List.set_cons_zero, List.set_cons_succ]
      refine wpAnyH_take (i := 4) (v := ?_) rfl (by kernel_rfl) (by kernel_rfl) (by kernel_rfl) (fun _ _ _ h => h) (Or.inl ⟨by rfl, ?_⟩) (by assumption) ?_
      rotate_left
      · (intro w hSw; (try dsimp only at hSw); go_simp; (try with_reducible rfl))
      try simp only [Act.put, List.setIfInBounds_toArray, List.set_cons_zero, List.set_cons_succ]
      refine wpAnyH_take (i := 5) (v := ?_) rfl (by kernel_rfl) (by kernel_rfl) (by kernel_rfl) (fun _ _ _ h => h) (Or.inl ⟨by rfl, ?_⟩) (by assumption) ?_
      rotate_left
      · (intro w hSw; (try dsimp only at hSw); go_simp; (try with_reducible rfl))
      try simp only [Act.put, List.setIfInBounds_toArray, List.set_cons_zero, List.set_cons_succ]
      refine wpAnyH_take (i := 6) (v := ?_) rfl (by kernel_rfl) (by kernel_rfl) (by kernel_rfl) (fun _ _ _ h => h) (Or.inl ⟨by rfl, ?_⟩) (by assumption) ?_
      rotate_left
      · (intro w hSw; (try dsimp only at hSw); go_simp; (try with_reducible rfl))
      try simp only [Act.put, List.setIfInBounds_toArray, List.set_cons_zero, List.set_cons_succ]
      refine wpAnyH_take (i := 8) (v := ?_) rfl (by kernel_rfl) (by kernel_rfl) (by kernel_rfl) (fun _ _ _ h => h) (Or.inl ⟨by rfl, ?_⟩) (by assumption) ?_
      rotate_left
      · (intro w hSw; (try dsimp only at hSw); go_simp; (try with_reducible rfl))
      try simp only [Act.put, List.setIfInBounds_toArray, List.set_cons_zero, List.set_cons_succ]
      refine wpAnyH_take (i := 9) (v := ?_) rfl (by kernel_rfl) (by kernel_rfl) (by kernel_rfl) (fun _ _ _ h => h) (Or.inl ⟨by rfl, ?_⟩) (by assumption) ?_
      rotate_left
      · (intro w hSw; (try dsimp only at hSw); go_simp; (try with_reducible rfl))
      try simp only [Act.put, List.setIfInBounds_toArray, List.set_cons_zero, List.set_cons_succ]
      refine wpAnyH_take (i := 10) (v := ?_) rfl (by kernel_rfl) (by kernel_rfl) (by kernel_rfl) (fun _ _ _ h => h) (Or.inl ⟨by rfl, ?_⟩) (by assumption) ?_
      rotate_left
      · (intro w hSw; (try dsimp only at hSw); go_simp; (try with_reducible rfl))
      try simp only [Act.put, List.setIfInBounds_toArray, List.set_cons_zero, List.set_cons_succ]
      refine wpAnyH_ready (rs := [7]) (by kernel_rfl) (by simp) ?_
      refine AllReadyH.cons rfl (fun K hK => ?_) AllReadyH.nil
      go_simp
      refine HOF.out.mono ?_
      rintro e W7 ⟨rfl, hk7⟩
      have hst8 := HST7.out.keep hk7
      obtain ⟨y0, y1, y2, y3, y4, y5, y6⟩ := hst8.facts
      obtain ⟨W8, hrun8, hst9⟩ := set_st hst8 p ⟨key, sumOf R load, load.size, a⟩ (by exact hpr) ⟨hk1, hk60, sumOf_size _ _, hl960, ha511⟩ (by omega)
      simp only at hrun8
      obtain ⟨z0, z1, z2, z3, z4, z5, z6⟩ := hst9.facts
      have HTL := Lib.hid (tell_st hst9 ((((HFT.out.write _ _ (by have := HF6.out; omega)).flush.write _ _ (by simp [Dv.flush])).flush).cast rfl rfl) (by exact hgr) (by show T.1.seq + 1 ≤ _; omega))
      clear HOF HST7 hst8 hst9 hk7
      go_wp2_with fail
      refine hK.out _ _ ⟨y0, y1, y2, y5⟩ (fun hHeld => ?_)
      clear hK K
      refine wpAnyH_take (i := 11) (v := ?_) rfl (by kernel_rfl) (by kernel_rfl) (by kernel_rfl) (fun _ _ _ h => h) (Or.inl ⟨by rfl, ?_⟩) (by assumption) ?_
      rotate_left
      · (intro w hSw; (try dsimp only at hSw); go_simp; (try with_reducible rfl))
      try simp only [Act.put, List.setIfInBounds_toArray, List.set_cons_zero, List.set_cons_succ]
      refine wpAnyH_ready (rs := [12]) (by kernel_rfl) (by simp) ?_
      refine AllReadyH.cons rfl (fun K hK => ?_) AllReadyH.nil
      go_simp
      refine hK.out _ _ ⟨z0, z1, z2, z5⟩ (fun hHeld => ?_)
      clear hK K
      refine wpAnyH_done (by kernel_rfl) ?_ _
      dsimp only [OnlyN, Exit.then]
      gi_wp2_with fail
      refine ⟨trivial, ?_⟩
      refine (CallsIn.inRound l (callsIn_wide.2 HTL.out)).mono ?_
      rintro e W9 ⟨rfl, F9, hst9⟩
      have HST9 := Lib.hid hst9
      clear HTL hst9
      gi_wp2
      have hsl := HB0.out s (by simp)
      have hn2 : (feed1 R g x key load T).1.n = S.n := by have := (feedI_facts (R := R) (g := g) (i := x) (key := key) (load := load) (T := (S, D)) HFIT.out hws (c + 1)).2.1; rwa [HT1.out] at this
      have hf2 : (feed1 R g x key load T).1.from' = S.from' := by have := (feedI_facts (R := R) (g := g) (i := x) (key := key) (load := load) (T := (S, D)) HFIT.out hws (c + 1)).1; rwa [HT1.out] at this
      have hfin : Stt R W (s :: b :: F1) q0 q1 q2 q3 sb gb g key load W9 s d b (m + c + 1) (feed1 R g x key load T).1 (feed1 R g x key load T).2 F9 := by
        have h9 := HST9.out
        have e1 := HAE.out
        subst e1
        obtain rfl := HP.out
        exact h9
      refine ⟨round_keeps HST.out hfin hsl hbl, fun _ => ?_, F9, ?_⟩
      · have := hfin.sees
        rwa [hn2, hf2] at this
      · show Stt _ _ _ _ _ _ _ _ _ _ _ _ _ _ _ _ (m + (pre ++ [x]).count x) (feedI R g x key load ((pre ++ [x]).count x) (S, D)).1 (feedI R g x key load ((pre ++ [x]).count x) (S, D)).2 F9
        rw [HC.out, HT1.out]
        exact HST.out.rebase hfin
    · have hcx : (pre ++ [x]).count i0 = pre.count i0 := by simp [List.count_append, hx]
      have hb1 : ((p : Int) == (S.hand : Int)) = false := by
        have : x.val ≠ i0.val := fun e => hx (Fin.ext e)
        have := HHAND.out
        simp; omega
      obtain ⟨y0, y1, y2, y3, y4, y5, y6⟩ := hst.facts
      rw [hF3] at y6
      simp only at y6
      have HST := Lib.hid hst
      have HC := Lib.hid hcx
      clear hst hF1 hF2 hF3 hF4 hF5 hF6 hcx hx hp ha
      gi_wp2
      exact ⟨KeepsFrom.refl _ _, fun h => h, F1, by show Stt _ _ _ _ _ _ _ _ _ _ _ _ _ _ _ _ _ (feedI R g i0 key load ((pre ++ [x]).count i0) (S, D)).1 _ _; rw [HC.out]; exact HST.out⟩
  case stop =>
    rintro Dd cd pre W hD hSp h hK
    exact h.elim
  case done =>
    rintro Dd xs W hD hS ⟨F1, hst⟩ hK
    subst hS
    have hcnt : (secs S.n g).count i0 = 1 := secs_count (by have := HHAND.out; omega)
    rw [hcnt] at hst
    subst ha0
    have hst1 := hst.keep (show Kept W W.drew from (Below.refl _ _).drew)
    have hfe : feedI R g i0 key load 1 (S, D) = feed1 R g i0 key load (S, D) := rfl
    rw [hfe] at hst1
    obtain ⟨y0, y1, y2, y3, y4, y5, y6⟩ := hst1.facts
    have y7 := hst1.c.sc.c2
    have yf := hst1.c.sc.fz 5
    have hwa : IntKind.i64.wrap ((S.hand : Int) + 1) = (S.hand : Int) + 1 := wrapI _ (by omega)
    have hroom : roomN S.n ≤ 512 := by unfold roomN; omega
    have hrm := room_any s S.n W.drew hn512 y7
    have hr0 : ¬ roomN S.n = 0 := by omega
    obtain ⟨h2, hh2⟩ : ∃ h2, (S.hand + 1) % roomN S.n = h2 := ⟨_, rfl⟩
    have htm : ((S.hand : Int) + 1).tmod (roomN S.n : Int) = (h2 : Int) := by
      rw [← hh2, Int.tmod_eq_emod_of_nonneg (by omega)]
      norm_cast
    have hqs : q0 ≠ s := fun e => hst1.n q0 (by simp) (by simp [e])
    have HH2 := Lib.hid hh2
    have HRM := Lib.hid hrm
    have HST := Lib.hid hst1
    have HK := Lib.hid hK
    have HCC := Lib.hid hcnt
    have y6' : W.drew.cell? ⟨s, 5, none⟩ = some (.int .i64 S.hand) := y6
    clear hst hst1 hK hcnt hfe hrm y6 hh2
    go_wp2_with fail
    refine wp_region_noPanic ?_
    refine wp_region_held_drew (S := fun w' => w'.cell? ⟨q0, 0, none⟩ = some (.pointer (some ⟨s, 0, none⟩))) (by kernel_rfl) y0 (fun hHeld => ?_)
    refine wpAnyH_take (i := 0) (v := ?_) rfl (by kernel_rfl) (by kernel_rfl) (by kernel_rfl) (fun _ _ _ h => h) (Or.inl ⟨by rfl, ?_⟩) (by assumption) ?_
    rotate_left
    · (intro w hSw; (try dsimp only at hSw); go_simp; (try with_reducible rfl))
    try simp only [Act.put, List.setIfInBounds_toArray, List.set_cons_zero, List.set_cons_succ]
    refine wpAnyH_take (i := 1) (v := ?_) rfl (by kernel_rfl) (by kernel_rfl) (by kernel_rfl) (fun _ _ _ h => h) (Or.inl ⟨by rfl, ?_⟩) (by assumption) ?_
    rotate_left
    · (intro w hSw; (try dsimp only at hSw); go_simp; (try with_reducible rfl))
    try simp only [Act.put, List.setIfInBounds_toArray, List.set_cons_zero, List.set_cons_succ]
    refine wpAnyH_take (i := 2) (v := ?_) rfl (by kernel_rfl) (by kernel_rfl) (by kernel_rfl) (fun _ _ _ h => h) (Or.inl ⟨by rfl, ?_⟩) (by assumption) ?_
    rotate_left
    · (intro w hSw; (try dsimp only at hSw); go_simp; (try with_reducible rfl))
    try simp only [Act.put, List.setIfInBounds_toArray, List.set_cons_zero, List.set_cons_succ]
    refine wpAnyH_take (i := 3) (v := ?_) rfl (by kernel_rfl) (by kernel_rfl) (by kernel_rfl) (fun _ _ _ h => h) (Or.inl ⟨by rfl, ?_⟩) (by assumption) ?_
    rotate_left
    · (intro w hSw; (try dsimp only at hSw); go_simp; (try with_reducible rfl))
    try simp only [Act.put, List.setIfInBounds_toArray, List.set_cons_zero, List.set_cons_succ]
    refine wpAnyH_take (i := 6) (v := ?_) rfl (by kernel_rfl) (by kernel_rfl) (by kernel_rfl) (fun _ _ _ h => h) (Or.inl ⟨by rfl, ?_⟩) (by assumption) ?_
    rotate_left
    · (intro w hSw; (try dsimp only at hSw); go_simp; (try with_reducible rfl))
    try simp only [Act.put, List.setIfInBounds_toArray, List.set_cons_zero, List.set_cons_succ]
    refine wpAnyH_ready (rs := [4, 7]) (by kernel_rfl) (by simp) ?_
    refine AllReadyH.cons rfl (fun K hK => ?_) (AllReadyH.cons rfl (fun K hK => ?_) AllReadyH.nil)
    · go_simp
      refine hK.out _ _ y0 (fun hHeld => ?_)
      clear hK K
      refine wpAnyH_take (i := 5) (v := ?_) rfl (by kernel_rfl) (by kernel_rfl) (by kernel_rfl) (fun _ _ _ h => h) (Or.inl ⟨by rfl, ?_⟩) (by assumption) ?_
      rotate_left
      · (intro w hSw; (try dsimp only at hSw); go_simp; (try with_reducible rfl))
      try simp only [Act.put, List.setIfInBounds_toArray, List.set_cons_zero, List.set_cons_succ]
      refine wpAnyH_ready (rs := [7]) (by kernel_rfl) (by simp) ?_
      refine AllReadyH.cons rfl (fun K hK => ?_) AllReadyH.nil
      go_simp
      refine HRM.out.mono ?_
      rintro e w' ⟨rfl, rfl⟩
      go_wp2_with fail
      refine hK.out _ _ y0 (fun hHeld => ?_)
      clear hK K
      refine wpAnyH_take (i := 8) (v := ?_) rfl (by kernel_rfl) (by kernel_rfl) (by kernel_rfl) (fun _ _ _ h => h) (Or.inl ⟨by rfl, ?_⟩) (by assumption) ?_
      rotate_left
      · (intro w hSw; (try dsimp only at hSw); go_simp; (try with_reducible rfl))
      try simp only [Act.put, List.setIfInBounds_toArray, List.set_cons_zero, List.set_cons_succ]
      refine wpAnyH_take (i := 9) (v := ?_) rfl (by kernel_rfl) (by kernel_rfl) (by kernel_rfl) (fun _ _ _ h => h) (Or.inl ⟨by rfl, ?_⟩) (by assumption) ?_
      rotate_left
      · (intro w hSw; (try dsimp only at hSw); go_simp; (try with_reducible rfl))
      try simp only [Act.put, List.setIfInBounds_toArray, List.set_cons_zero, List.set_cons_succ]
      refine wpAnyH_take (i := 10) (v := ?_) rfl (by kernel_rfl) (by kernel_rfl) (by kernel_rfl) (fun _ _ _ h => h) (Or.inl ⟨by rfl, ?_⟩) (by assumption) ?_
      rotate_left
      · (intro w hSw; (try dsimp only at hSw); go_simp; (try with_reducible rfl))
      try simp only [Act.put, List.setIfInBounds_toArray, List.set_cons_zero, List.set_cons_succ]
      refine wpAnyH_ready (rs := [11]) (by kernel_rfl) (by simp) ?_
      refine AllReadyH.cons rfl (fun K hK => ?_) AllReadyH.nil
      go_simp
      refine hK.out _ _ (by change (W.setCell ⟨s, 5, none⟩ (.int .i64 h2)).cell? ⟨q0, 0, none⟩ = _; rw [World.cell?_setCell_far _ _ _ _ (by simpa using Ne.symm hqs)]; exact y0) (fun hHeld => ?_)
      clear hK K
      refine wpAnyH_done (by kernel_rfl) ?_ _
      refine NoPanic.normal ?_
      dsimp only [Exit.then]
      go_wp2
      have hC2 : Cach R (W.setCell ⟨s, 5, none⟩ (.int .i64 h2)).drew.drew s d b (m + 1) (feedN R key load (S, D)).1 (feedN R key load (S, D)).2 F1 := by
        have h1 := (HST.out.c.hand h2).kept (show Kept _ (W.setCell ⟨s, 5, none⟩ (.int .i64 h2)).drew.drew from ⟨rfl, rfl, rfl, Nat.le_refl _, fun _ _ => rfl⟩)
        have e1 := HH2.out
        have e2 := HG.out
        have e3 := HI0.out
        subst e1 e2
        have e4 : i0 = ⟨S.hand % 7, by omega⟩ := Fin.ext e3
        rw [e4] at h1
        exact h1
      have hDd : (W.setCell ⟨s, 5, none⟩ (.int .i64 h2)).drew.drew.heap[Dd]? = some (.deferred (some [])) := by
        have := HB0.out s (by simp)
        exact (heap_set_ne W s 5 _ Dd (by omega)).trans HK.out
      refine ⟨by simp, .inl ⟨_, _, rfl, run_takeDeferred hDd, ?_⟩⟩
      refine ⟨.bool true, by simp [results, Tryd.results9, go_sem], rfl, F1, hC2.putObj hDd _, Upd.putObj ?_ (by have := HU0.out.size; omega) _⟩
      exact (HU0.out.trans HST.out.u).trans (((Upd.refl (s :: b :: F1) W.drew).setCell (p := ⟨s, 5, none⟩) (.inl (by simp)) (.int .i64 h2)).drew)
    · go_simp
      refine HRM.out.mono ?_
      rintro e w' ⟨rfl, rfl⟩
      go_wp2_with fail
      refine hK.out _ _ y0 (fun hHeld => ?_)
      clear hK K
      refine wpAnyH_ready (rs := [4]) (by kernel_rfl) (by simp) ?_
      refine AllReadyH.cons rfl (fun K hK => ?_) AllReadyH.nil
      go_simp
      refine hK.out _ _ y0 (fun hHeld => ?_)
      clear hK K
      refine wpAnyH_take (i := 5) (v := ?_) rfl (by kernel_rfl) (by kernel_rfl) (by kernel_rfl) (fun _ _ _ h => h) (Or.inl ⟨by rfl, ?_⟩) (by assumption) ?_
      rotate_left
      · (intro w hSw; (try dsimp only at hSw); go_simp; (try with_reducible rfl))
      try simp only [Act.put, List.setIfInBounds_toArray, List.set_cons_zero, List.set_cons_succ]
      refine wpAnyH_take (i := 8) (v := ?_) rfl (by kernel_rfl) (by kernel_rfl) (by kernel_rfl) (fun _ _ _ h => h) (Or.inl ⟨by rfl, ?_⟩) (by assumption) ?_
      rotate_left
      · (intro w hSw; (try dsimp only at hSw); go_simp; (try with_reducible rfl))
      try simp only [Act.put, List.setIfInBounds_toArray, List.set_cons_zero, List.set_cons_succ]
      refine wpAnyH_take (i := 9) (v := ?_) rfl (by kernel_rfl) (by kernel_rfl) (by kernel_rfl) (fun _ _ _ h => h) (Or.inl ⟨by rfl, ?_⟩) (by assumption) ?_
      rotate_left
      · (intro w hSw; (try dsimp only at hSw); go_simp; (try with_reducible rfl))
      try simp only [Act.put, List.setIfInBounds_toArray, List.set_cons_zero, List.set_cons_succ]
      refine wpAnyH_take (i := 10) (v := ?_) rfl (by kernel_rfl) (by kernel_rfl) (by kernel_rfl) (fun _ _ _ h => h) (Or.inl ⟨by rfl, ?_⟩) (by assumption) ?_
      rotate_left
      · (intro w hSw; (try dsimp only at hSw); go_simp; (try with_reducible rfl))
      try simp only [Act.put, List.setIfInBounds_toArray, List.set_cons_zero, List.set_cons_succ]
      refine wpAnyH_ready (rs := [11]) (by kernel_rfl) (by simp) ?_
      refine AllReadyH.cons rfl (fun K hK => ?_) AllReadyH.nil
      go_simp
      refine hK.out _ _ (by change (W.setCell ⟨s, 5, none⟩ (.int .i64 h2)).cell? ⟨q0, 0, none⟩ = _; rw [World.cell?_setCell_far _ _ _ _ (by simpa using Ne.symm hqs)]; exact y0) (fun hHeld => ?_)
      clear hK K
      refine wpAnyH_done (by kernel_rfl) ?_ _
      refine NoPanic.normal ?_
      dsimp only [Exit.then]
      go_wp2
      have hC2 : Cach R (W.setCell ⟨s, 5, none⟩ (.int .i64 h2)).drew.drew s d b (m + 1) (feedN R key load (S, D)).1 (feedN R key load (S, D)).2 F1 := by
        have h1 := (HST.out.c.hand h2).kept (show Kept _ (W.setCell ⟨s, 5, none⟩ (.int .i64 h2)).drew.drew from ⟨rfl, rfl, rfl, Nat.le_refl _, fun _ _ => rfl⟩)
        have e1 := HH2.out
        have e2 := HG.out
        have e3 := HI0.out
        subst e1 e2
        have e4 : i0 = ⟨S.hand % 7, by omega⟩ := Fin.ext e3
        rw [e4] at h1
        exact h1
      have hDd : (W.setCell ⟨s, 5, none⟩ (.int .i64 h2)).drew.drew.heap[Dd]? = some (.deferred (some [])) := by
        have := HB0.out s (by simp)
        exact (heap_set_ne W s 5 _ Dd (by omega)).trans HK.out
      refine ⟨by simp, .inl ⟨_, _, rfl, run_takeDeferred hDd, ?_⟩⟩
      refine ⟨.bool true, by simp [results, Tryd.results9, go_sem], rfl, F1, hC2.putObj hDd _, Upd.putObj ?_ (by have := HU0.out.size; omega) _⟩
      exact (HU0.out.trans HST.out.u).trans (((Upd.refl (s :: b :: F1) W.drew).setCell (p := ⟨s, 5, none⟩) (.inl (by simp)) (.int .i64 h2)).drew)
end Go.Proofs.YtbhokalnkfdekaaDoor
