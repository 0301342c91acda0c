/- Package dev: settle, done, Flush, Crash. -/
import Derived.Test.YtbhokalnkfdekaaDoorDevb
import Derived.Lib.Hide
import Derived.LoopTactic
namespace Go.Proofs.YtbhokalnkfdekaaDoor
open Go.RowKit

/-- those whose number is kept -/
def keptL (kb : Nat → Bool) : Nat → List (Int × Int × ByteArray) → List (Int × Int × ByteArray)
  | _, [] => []
  | i, x :: l => if kb i then x :: keptL kb (i + 1) l else keptL kb (i + 1) l

theorem keptL_append (kb : Nat → Bool) (l l' : List (Int × Int × ByteArray)) : ∀ i, keptL kb i (l ++ l') = keptL kb i l ++ keptL kb (i + l.length) l' := by
  induction l with
  | nil => intro i; simp [keptL]
  | cons x l ih =>
    intro i
    simp only [List.cons_append, keptL, List.length_cons]
    rw [ih (i + 1), show i + 1 + l.length = i + (l.length + 1) by omega]
    split <;> simp
theorem keptL_take (kb : Nat → Bool) (l : List (Int × Int × ByteArray)) (k : Nat) (x : Int × Int × ByteArray) (hx : l[k]? = some x) :
    keptL kb 0 (l.take (k + 1)) = if kb k then keptL kb 0 (l.take k) ++ [x] else keptL kb 0 (l.take k) := by
  obtain ⟨h1, h2⟩ := List.getElem?_eq_some_iff.1 hx
  have e : l.take (k + 1) = l.take k ++ [x] := by rw [List.take_succ_eq_append_getElem h1, h2]
  rw [e, keptL_append]
  have hl : (l.take k).length = k := by simp; omega
  rw [hl]
  simp only [keptL, Nat.zero_add]
  split <;> simp
theorem keptL_all (l : List (Int × Int × ByteArray)) : ∀ i, keptL (fun _ => true) i l = l := by
  induction l with
  | nil => intro i; rfl
  | cons x l ih => intro i; simp [keptL, ih]
theorem Dv.put_ws (D : Dv) (x : Int × Int × ByteArray) : (D.put x).ws = D.ws := by unfold Dv.put; split <;> rfl
theorem Dv.puts_ws (D : Dv) (l : List (Int × Int × ByteArray)) : (D.puts l).ws = D.ws := by
  induction l generalizing D with
  | nil => rfl
  | cons x l ih => exact (ih (D.put x)).trans (D.put_ws x)
theorem Dv.puts_snoc (D : Dv) (l : List (Int × Int × ByteArray)) (x : Int × Int × ByteArray) : D.puts (l ++ [x]) = (D.puts l).put x := by simp [Dv.puts]

theorem IsDevs.kept {w w' : World} {d b0 b1 : Nat} {wv : Value} {D : Dv} (h : IsDevs w d b0 b1 wv D) (hk : Kept w w') : IsDevs w' d b0 b1 wv D :=
  ⟨(hk.heap (lt_blk h.blk)).trans h.blk, (hk.heap (lt_blk h.sec0)).trans h.sec0, (hk.heap (lt_blk h.sec1)).trans h.sec1, ownsRow_heap h.wait (fun k hk' => hk.heap (h.wait.lt k hk').2), h.ok, h.ne, h.nd0, h.nd1, h.wb0, h.wb1, h.wbd⟩

theorem ownsRow_cell {w : World} {base : Nat} {e : TypeId} {size g n cap : Nat} {xs : List Value} (h : w.ownsRow base e size (.slice (some ⟨g, 0, none⟩) n cap) n xs) (j : Nat) (u : Value) (hj : xs[j]? = some u) : w.cell? ⟨g, j, none⟩ = some u := by
  have := h.cells (g := g) rfl j u hj
  have hadd : (⟨g, 0, none⟩ : Addr).add j = ⟨g, j, none⟩ := by unfold Addr.add; split <;> simp_all
  rwa [hadd] at this
theorem wcells_at (ws : List (Int × Int × ByteArray)) : ∀ (k : Nat) (x : Int × Int × ByteArray), ws[k]? = some x → (wcells ws)[k * 3]? = some (.int .i64 x.1) ∧ (wcells ws)[k * 3 + 1]? = some (.int .i64 x.2.1) ∧ (wcells ws)[k * 3 + 2]? = some (.string x.2.2) := by
  induction ws with
  | nil => intro k x h; simp at h
  | cons y l ih =>
    intro k x h
    cases k with
    | zero =>
      simp only [List.getElem?_cons_zero, Option.some.injEq] at h
      subst h
      simp [wcells]
    | succ k =>
      simp only [List.getElem?_cons_succ] at h
      obtain ⟨h1, h2, h3⟩ := ih k x h
      have e : wcells (y :: l) = [.int .i64 y.1, .int .i64 y.2.1, .string y.2.2] ++ wcells l := by simp [wcells]
      rw [e, show (k + 1) * 3 = (k * 3) + 3 by omega, show k * 3 + 3 + 1 = (k * 3 + 1) + 3 by omega, show k * 3 + 3 + 2 = (k * 3 + 2) + 3 by omega]
      exact ⟨by simpa using h1, by simpa using h2, by simpa using h3⟩
section
variable {w : World} {d b0 b1 bw n c : Nat} {D : Dv} {k : Nat} {x : Int × Int × ByteArray}
theorem IsDevs.wlen (h : IsDevs w d b0 b1 (.slice (some ⟨bw, 0, none⟩) n c) D) : n = D.ws.length := by
  rcases h.wait.2 with ⟨e, _⟩ | ⟨g, cap, cur, e, _⟩
  · cases e
  · cases e; rfl
theorem IsDevs.wcell0 (h : IsDevs w d b0 b1 (.slice (some ⟨bw, 0, none⟩) n c) D) (hx : D.ws[k]? = some x) : w.cell? ⟨bw, k * 3, none⟩ = some (.int .i64 x.1) := by
  obtain rfl := h.wlen; exact ownsRow_cell h.wait _ _ (wcells_at _ _ _ hx).1
theorem IsDevs.wcell1 (h : IsDevs w d b0 b1 (.slice (some ⟨bw, 0, none⟩) n c) D) (hx : D.ws[k]? = some x) : w.cell? ⟨bw, k * 3 + 1, none⟩ = some (.int .i64 x.2.1) := by
  obtain rfl := h.wlen; exact ownsRow_cell h.wait _ _ (wcells_at _ _ _ hx).2.1
theorem IsDevs.wcell2 (h : IsDevs w d b0 b1 (.slice (some ⟨bw, 0, none⟩) n c) D) (hx : D.ws[k]? = some x) : w.cell? ⟨bw, k * 3 + 2, none⟩ = some (.string x.2.2) := by
  obtain rfl := h.wlen; exact ownsRow_cell h.wait _ _ (wcells_at _ _ _ hx).2.2
end

set_option maxRecDepth 100000 in
set_option maxHeartbeats 2000000 in
theorem settle_flush (d b0 b1 : Nat) (wv : Value) (D : Dv) (w : World) (h : IsDevs w d b0 b1 wv D) (kb : Nat → Bool) (cap : Array Value) (hcap : cap = #[])
    (hkb : ∀ W, Upd [b0, b1] w [b0, b1] W → ∀ i : Nat, Calls Tryd.prog 25 (#[.int .i64 i] ++ cap) W fun e w' => e = .returned (.bool (kb i)) ∧ w' = W) :
    Calls Tryd.prog 41 #[wv, .func (.func 25) #[] cap, .func (.func 31) #[.pointer (some ⟨d, 0, none⟩)] #[]] w fun e w' => e = .returned (.tuple #[]) ∧
      IsDevs w' d b0 b1 wv (D.puts (keptL kb 0 D.ws)) ∧ Upd [b0, b1] w [b0, b1] w' := by
  subst hcap
  simp only [List.append_toArray, List.cons_append, List.nil_append, Array.append_empty] at hkb
  have Hk := Lib.hid hkb
  clear hkb
  by_cases hn : D.ws = []
  · have hw := h.wait
    have hx : ∃ p c, wv = .slice p 0 c := by
      rcases hw.2 with ⟨e, _⟩ | ⟨g, c, cur, e, _⟩
      · exact ⟨_, _, e⟩
      · rw [hn] at e; exact ⟨_, _, e⟩
    obtain ⟨p, c, e⟩ := hx
    have hfin : D.puts (keptL kb 0 D.ws) = D := by rw [hn]; rfl
    rw [hfin]
    have H := Lib.hid h
    clear h hw hfin hn
    subst e
    go_enter Tryd.func41, Tryd.ntmps41
    go_wp2
    refine wp_loop_once ?_
    go_wp2
    go_end0
    exact ⟨rfl, H.out, Upd.refl _ _⟩
  · have hpos : 0 < D.ws.length := List.length_pos_iff.2 hn
    obtain ⟨bw, c, e, _, hbw⟩ := h.wait.form hpos
    subst e
    have hlen : D.ws.length ≤ 9223372036854775807 := by
      rcases h.wait.2 with ⟨e, _⟩ | ⟨g, c, cur, e, _, _, h1, h2, _⟩
      · cases e
      · unfold maxLen at h2; omega
    have H := Lib.hid h
    have HN := Lib.hid hn
    clear h hn
    go_enter Tryd.func41, Tryd.ntmps41
    go_wp2
    go_loopw [6, 7, 10] (fun _ _ i wr => ∃ k : Nat, k ≤ D.ws.length ∧ i = .int .i64 k ∧ IsDevs wr d b0 b1 (.slice (some ⟨bw, 0, none⟩) D.ws.length c) (D.puts (keptL kb 0 (D.ws.take k))) ∧ Upd [b0, b1] w [b0, b1] wr)
      (fun _ _ i _ => D.ws.length - (intOf i).toNat)
    case atStart => exact ⟨0, Nat.zero_le _, rfl, by simpa [keptL, Dv.puts] using H.out, Upd.refl _ _⟩
    case round =>
      obtain ⟨k, hk, rfl, hI, hU⟩ := hrel
      by_cases hlt : k < D.ws.length
      · obtain ⟨x, hx⟩ : ∃ x, D.ws[k]? = some x := ⟨_, List.getElem?_eq_getElem hlt⟩
        have e0 := hI.wcell0 (k := k) (x := x) (by rw [Dv.puts_ws]; exact hx)
        have e1 := hI.wcell1 (k := k) (x := x) (by rw [Dv.puts_ws]; exact hx)
        have e2 := hI.wcell2 (k := k) (x := x) (by rw [Dv.puts_ws]; exact hx)
        have hbw' : bw < wr.heap.size := Nat.lt_of_lt_of_le hbw hU.size
        have hv : (D.puts (keptL kb 0 (D.ws.take k))).valid x.1 x.2.1 := (hI.ok.tw x (by rw [Dv.puts_ws]; exact List.mem_of_getElem? hx)).2
        have hs : x.2.2.size ≤ 1024 := (hI.ok.tw x (by rw [Dv.puts_ws]; exact List.mem_of_getElem? hx)).1
        have hstep := keptL_take kb D.ws k x hx
        have HI := Lib.hid hI
        have HU := Lib.hid hU
        have HX := Lib.hid hx
        have HV := Lib.hid hv
        have HS := Lib.hid hstep
        clear hI hU hx hv hstep hpos
        cases hb : kb k
        · go_wp2_with (go_at_call 25; refine (Hk.out _ (by exact HU.out.trans (Kept.upd (by repeat (first | exact Below.refl _ _ | assumption | refine Below.drewN ?_ _ | refine Below.drew ?_ | (refine Below.alloc' _ ?_ ?_; (focus ((first | omega | (simp; done) | (simp; omega))))) | (refine Below.setCell' _ ?_ ?_; (focus ((first | omega | (simp; done) | (simp; omega))))))))) k).mono ?_; rintro e w' ⟨rfl, rfl⟩)
          go_roundw
          case rel =>
            refine ⟨k + 1, by omega, by go_num, ?_, HU.out.trans (Kept.upd (by repeat (first | exact Below.refl _ _ | assumption | refine Below.drewN ?_ _ | refine Below.drew ?_ | (refine Below.alloc' _ ?_ ?_; (focus ((first | omega | (simp; done) | (simp; omega))))) | (refine Below.setCell' _ ?_ ?_; (focus ((first | omega | (simp; done) | (simp; omega))))))))⟩
            rw [HS.out, hb]
            simp only [Bool.false_eq_true, if_false]
            exact HI.out.kept (by repeat (first | exact Below.refl _ _ | assumption | refine Below.drewN ?_ _ | refine Below.drew ?_ | (refine Below.alloc' _ ?_ ?_; (focus ((first | omega | (simp; done) | (simp; omega))))) | (refine Below.setCell' _ ?_ ?_; (focus ((first | omega | (simp; done) | (simp; omega)))))))
          case measure => simp [intOf]; omega
        · go_wp2_with (first
            | (go_at_call 25; refine (Hk.out _ (by exact HU.out.trans (Kept.upd (by repeat (first | exact Below.refl _ _ | assumption | refine Below.drewN ?_ _ | refine Below.drew ?_ | (refine Below.alloc' _ ?_ ?_; (focus ((first | omega | (simp; done) | (simp; omega))))) | (refine Below.setCell' _ ?_ ?_; (focus ((first | omega | (simp; done) | (simp; omega))))))))) k).mono ?_; rintro e w' ⟨rfl, rfl⟩)
            | (go_at_call 31; refine (put_any d b0 b1 _ _ x _ (HI.out.kept (by repeat (first | exact Below.refl _ _ | assumption | refine Below.drewN ?_ _ | refine Below.drew ?_ | (refine Below.alloc' _ ?_ ?_; (focus ((first | omega | (simp; done) | (simp; omega))))) | (refine Below.setCell' _ ?_ ?_; (focus ((first | omega | (simp; done) | (simp; omega)))))))) HV.out hs).mono ?_; rintro e w' ⟨rfl, hI', hU'⟩))
          go_roundw
          case rel =>
            refine ⟨k + 1, by omega, by go_num, ?_, ?_⟩
            · rw [HS.out, hb]
              simp only [if_true]
              rw [Dv.puts_snoc]
              exact hI'
            · exact (HU.out.trans (Kept.upd (by repeat (first | exact Below.refl _ _ | assumption | refine Below.drewN ?_ _ | refine Below.drew ?_ | (refine Below.alloc' _ ?_ ?_; (focus ((first | omega | (simp; done) | (simp; omega))))) | (refine Below.setCell' _ ?_ ?_; (focus ((first | omega | (simp; done) | (simp; omega))))))))).trans hU'
          case measure => simp [intOf]; omega
      · obtain rfl : k = D.ws.length := by omega
        rw [List.take_length] at hI
        have HI := Lib.hid hI
        have HU := Lib.hid hU
        clear hI hU
        go_wp2
        go_end0
        exact ⟨rfl, HI.out, HU.out⟩
end Go.Proofs.YtbhokalnkfdekaaDoor
