/- Package dev: Crash. -/
import Derived.Test.YtbhokalnkfdekaaGreatDoorDevd
namespace Go.Proofs.YtbhokalnkfdekaaGreatDoor
open Go.RowKit

set_option maxRecDepth 100000 in
set_option maxHeartbeats 2000000 in
theorem settle_crash (bk : Nat) (d b0 b1 : Nat) (wv : Value) (D : Dv) (w : World) (h : IsDevs w d b0 b1 wv D) (kb : Nat → Bool) (cap : Array Value) (hcap : cap = #[.pointer (some ⟨bk, 0, none⟩)])
    (hkb : ∀ W, Upd [b0, b1] w [b0, b1] W → ∀ i : Nat, Calls Tryz.prog 45 (#[.int .i64 i] ++ cap) W fun e w' => e = .returned (.bool (kb i)) ∧ w' = W) :
    Calls Tryz.prog 88 #[wv, .func (.func 45) #[] cap, .func (.func 78) #[.pointer (some ⟨d, 0, none⟩)] #[]] w fun e w' => e = .returned (.tuple #[]) ∧
      IsDevs w' d b0 b1 wv (D.puts (keptL kb 0 D.ws)) ∧ Upd [b0, b1] w [b0, b1] w' := by
  subst hcap
  simp only [List.append_toArray, List.cons_append, List.nil_append, Array.append_empty] at hkb
  have Hk := Lib.hid hkb
  clear hkb
  by_cases hn : D.ws = []
  · have hw := h.wait
    have hx : ∃ p c, wv = .slice p 0 c := by
      rcases hw.2 with ⟨e, _⟩ | ⟨g, c, cur, e, _⟩
      · exact ⟨_, _, e⟩
      · rw [hn] at e; exact ⟨_, _, e⟩
    obtain ⟨p, c, e⟩ := hx
    have hfin : D.puts (keptL kb 0 D.ws) = D := by rw [hn]; rfl
    rw [hfin]
    have H := Lib.hid h
    clear h hw hfin hn
    subst e
    go_enter Tryz.func88, Tryz.ntmps88
    go_wp2
    refine wp_loop_once ?_
    go_wp2
    go_end0
    exact ⟨rfl, H.out, Upd.refl _ _⟩
  · have hpos : 0 < D.ws.length := List.length_pos_iff.2 hn
    obtain ⟨bw, c, e, _, hbw⟩ := h.wait.form hpos
    subst e
    have hlen : D.ws.length ≤ 9223372036854775807 := by
      rcases h.wait.2 with ⟨e, _⟩ | ⟨g, c, cur, e, _, _, h1, h2, _⟩
      · cases e
      · unfold maxLen at h2; omega
    have H := Lib.hid h
    have HN := Lib.hid hn
    clear h hn
    go_enter Tryz.func88, Tryz.ntmps88
    go_wp2
    go_loopw [6, 7, 10] (fun _ _ i wr => ∃ k : Nat, k ≤ D.ws.length ∧ i = .int .i64 k ∧ IsDevs wr d b0 b1 (.slice (some ⟨bw, 0, none⟩) D.ws.length c) (D.puts (keptL kb 0 (D.ws.take k))) ∧ Upd [b0, b1] w [b0, b1] wr)
      (fun _ _ i _ => D.ws.length - (intOf i).toNat)
    case atStart => exact ⟨0, Nat.zero_le _, rfl, by simpa [keptL, Dv.puts] using H.out, Upd.refl _ _⟩
    case round =>
      obtain ⟨k, hk, rfl, hI, hU⟩ := hrel
      by_cases hlt : k < D.ws.length
      · obtain ⟨x, hx⟩ : ∃ x, D.ws[k]? = some x := ⟨_, List.getElem?_eq_getElem hlt⟩
        have e0 := hI.wcell0 (k := k) (x := x) (by rw [Dv.puts_ws]; exact hx)
        have e1 := hI.wcell1 (k := k) (x := x) (by rw [Dv.puts_ws]; exact hx)
        have e2 := hI.wcell2 (k := k) (x := x) (by rw [Dv.puts_ws]; exact hx)
        have hbw' : bw < wr.heap.size := Nat.lt_of_lt_of_le hbw hU.size
        have hv : (D.puts (keptL kb 0 (D.ws.take k))).valid x.1 x.2.1 := (hI.ok.tw x (by rw [Dv.puts_ws]; exact List.mem_of_getElem? hx)).2
        have hs : x.2.2.size ≤ 1024 := (hI.ok.tw x (by rw [Dv.puts_ws]; exact List.mem_of_getElem? hx)).1
        have hstep := keptL_take kb D.ws k x hx
        have HI := Lib.hid hI
        have HU := Lib.hid hU
        have HX := Lib.hid hx
        have HV := Lib.hid hv
        have HS := Lib.hid hstep
        clear hI hU hx hv hstep hpos
        cases hb : kb k
        · go_wp2_with (go_at_call 45; refine (Hk.out _ (by exact HU.out.trans (Kept.upd (by repeat (first | exact Below.refl _ _ | assumption | refine Below.drewN ?_ _ | refine Below.drew ?_ | (refine Below.alloc' _ ?_ ?_; (focus ((first | omega | (simp; done) | (simp; omega))))) | (refine Below.setCell' _ ?_ ?_; (focus ((first | omega | (simp; done) | (simp; omega))))))))) k).mono ?_; rintro e w' ⟨rfl, rfl⟩)
          go_roundw
          case rel =>
            refine ⟨k + 1, by omega, by go_num, ?_, HU.out.trans (Kept.upd (by repeat (first | exact Below.refl _ _ | assumption | refine Below.drewN ?_ _ | refine Below.drew ?_ | (refine Below.alloc' _ ?_ ?_; (focus ((first | omega | (simp; done) | (simp; omega))))) | (refine Below.setCell' _ ?_ ?_; (focus ((first | omega | (simp; done) | (simp; omega))))))))⟩
            rw [HS.out, hb]
            simp only [Bool.false_eq_true, if_false]
            exact HI.out.kept (by repeat (first | exact Below.refl _ _ | assumption | refine Below.drewN ?_ _ | refine Below.drew ?_ | (refine Below.alloc' _ ?_ ?_; (focus ((first | omega | (simp; done) | (simp; omega))))) | (refine Below.setCell' _ ?_ ?_; (focus ((first | omega | (simp; done) | (simp; omega)))))))
          case measure => simp [intOf]; omega
        · go_wp2_with (first
            | (go_at_call 45; refine (Hk.out _ (by exact HU.out.trans (Kept.upd (by repeat (first | exact Below.refl _ _ | assumption | refine Below.drewN ?_ _ | refine Below.drew ?_ | (refine Below.alloc' _ ?_ ?_; (focus ((first | omega | (simp; done) | (simp; omega))))) | (refine Below.setCell' _ ?_ ?_; (focus ((first | omega | (simp; done) | (simp; omega))))))))) k).mono ?_; rintro e w' ⟨rfl, rfl⟩)
            | (go_at_call 78; refine (put_any d b0 b1 _ _ x _ (HI.out.kept (by repeat (first | exact Below.refl _ _ | assumption | refine Below.drewN ?_ _ | refine Below.drew ?_ | (refine Below.alloc' _ ?_ ?_; (focus ((first | omega | (simp; done) | (simp; omega))))) | (refine Below.setCell' _ ?_ ?_; (focus ((first | omega | (simp; done) | (simp; omega)))))))) HV.out hs).mono ?_; rintro e w' ⟨rfl, hI', hU'⟩))
          go_roundw
          case rel =>
            refine ⟨k + 1, by omega, by go_num, ?_, ?_⟩
            · rw [HS.out, hb]
              simp only [if_true]
              rw [Dv.puts_snoc]
              exact hI'
            · exact (HU.out.trans (Kept.upd (by repeat (first | exact Below.refl _ _ | assumption | refine Below.drewN ?_ _ | refine Below.drew ?_ | (refine Below.alloc' _ ?_ ?_; (focus ((first | omega | (simp; done) | (simp; omega))))) | (refine Below.setCell' _ ?_ ?_; (focus ((first | omega | (simp; done) | (simp; omega))))))))).trans hU'
          case measure => simp [intOf]; omega
      · obtain rfl : k = D.ws.length := by omega
        rw [List.take_length] at hI
        have HI := Lib.hid hI
        have HU := Lib.hid hU
        clear hI hU
        go_wp2
        go_end0
        exact ⟨rfl, HI.out, HU.out⟩

set_option maxRecDepth 100000 in
set_option maxHeartbeats 1000000 in
theorem done_crash (bk : Nat) (d b0 b1 : Nat) (wv : Value) (D : Dv) (w : World) (h : IsDevs w d b0 b1 wv D) (kb : Nat → Bool) (cap : Array Value) (hcap : cap = #[.pointer (some ⟨bk, 0, none⟩)])
    (hkb : ∀ W, Upd [b0, b1] w [b0, b1] W → ∀ i : Nat, Calls Tryz.prog 45 (#[.int .i64 i] ++ cap) W fun e w' => e = .returned (.bool (kb i)) ∧ w' = W) :
    Calls Tryz.prog 44 #[.pointer (some ⟨d, 0, none⟩), .func (.func 45) #[] cap] w fun e w' => e = .returned (.int .i64 0) ∧
      IsDevs w' d b0 b1 (.slice none 0 0) { D.puts (keptL kb 0 D.ws) with ws := [] } ∧ Upd [d, b0, b1] w [d, b0, b1] w' := by
  subst hcap
  have hc := settle_crash bk d b0 b1 wv D w h kb _ rfl hkb
  have HC := Lib.hid hc
  have c4 := h.c4
  clear hkb h hc
  go_enter Tryz.func44, Tryz.ntmps44
  go_wp2_with (go_at_call 88; refine HC.out.mono ?_; rintro e w1 ⟨rfl, hI, hU⟩; (have d4 := hI.c4); (have f4 := frozen_blk (o := 4) hI.blk); (have HI := Lib.hid hI); clear hI c4)
  go_ret
  exact ⟨rfl, HI.out.cleared (Kept.refl _), ((Upd.wide (hU.frame [d]) (by simp)).setCell (p := ⟨d, 4, none⟩) (.inl (by simp)) _).sub (by simp)⟩

/-- which are kept at a crash -/
def keepB (keep : List Bool) (i : Nat) : Bool := keep.getD i false

theorem crash1_any (keep : List Bool) (bk kb ko cap i : Nat) (w : World) (hc : w.cell? ⟨bk, 0, none⟩ = some (.slice (some ⟨kb, ko, none⟩) keep.length cap))
    (hk : ∀ j (_ : j < keep.length), w.cell? ⟨kb, ko + j, none⟩ = some (.bool (keep.getD j false))) (hl : keep.length ≤ 1000000) :
    Calls Tryz.prog 45 #[.int .i64 i, .pointer (some ⟨bk, 0, none⟩)] w fun e w' => e = .returned (.bool (keepB keep i)) ∧ w' = w := by
  by_cases h : i < keep.length
  · have h1 := hk i h
    have hv : keepB keep i = keep.getD i false := rfl
    rw [hv]
    have HV := Lib.hid hv
    clear hk hv
    go_enter Tryz.func45, Tryz.ntmps45
    go_wp2
    go_ret
    exact ⟨by simp [List.getD, h], rfl⟩
  · have hv : keepB keep i = false := by simp [keepB, List.getD, List.getElem?_eq_none (Nat.le_of_not_lt h)]
    rw [hv]
    clear hk hv
    go_enter Tryz.func45, Tryz.ntmps45
    go_wp2
    go_ret
    exact ⟨rfl, rfl⟩
theorem crash1_nil (p : Option Addr) (cap bk i : Nat) (w : World) (hc : w.cell? ⟨bk, 0, none⟩ = some (.slice p 0 cap)) :
    Calls Tryz.prog 45 #[.int .i64 i, .pointer (some ⟨bk, 0, none⟩)] w fun e w' => e = .returned (.bool false) ∧ w' = w := by
  go_enter Tryz.func45, Tryz.ntmps45
  go_wp2
  go_ret
  exact ⟨rfl, rfl⟩

def Dv.crash (D : Dv) (keep : List Bool) : Dv := { D.puts (keptL (keepB keep) 0 D.ws) with ws := [] }

/-- how a list of bools lies in memory -/
def Bools (w : World) (v : Value) (keep : List Bool) : Prop :=
  (keep = [] ∧ ∃ p cap, v = .slice p 0 cap) ∨ (∃ kb ko cap, v = .slice (some ⟨kb, ko, none⟩) keep.length cap ∧ kb < w.heap.size ∧ ∀ j (_ : j < keep.length), w.cell? ⟨kb, ko + j, none⟩ = some (.bool (keep.getD j false)))
end Go.Proofs.YtbhokalnkfdekaaGreatDoor
