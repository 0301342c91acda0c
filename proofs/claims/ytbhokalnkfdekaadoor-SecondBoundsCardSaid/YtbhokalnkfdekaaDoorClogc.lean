/- Package clog: Decode. -/
import Derived.Test.YtbhokalnkfdekaaDoorClogb
import Derived.Deep.RegionLaw
import Derived.Deep.AppendLies
namespace Go.Proofs.YtbhokalnkfdekaaDoor
open Go.RowKit
open Go.Proofs

def ba (l : List UInt8) : ByteArray := ⟨l.toArray⟩
theorem ba_size (l : List UInt8) : (ba l).size = l.length := by show l.toArray.size = _; simp
theorem ba_left (a r : List UInt8) (n : Nat) (h : a.length = n) : (ba (a ++ r)).extract 0 n = ba a := by
  subst h
  apply ByteArray.ext
  simp [ba]
theorem ba_right (a r : List UInt8) (n : Nat) (h : a.length = n) : (ba (a ++ r)).extract n (ba (a ++ r)).size = ba r := by
  subst h
  apply ByteArray.ext
  rw [ba_size]
  simp [ba]
set_option maxRecDepth 100000 in
theorem numL_leL (k n : Nat) : numL (leL k (n : Int)) = n % 2 ^ (8 * k) := by
  induction k with
  | zero => simp [leL, numL]; omega
  | succ k ih =>
    rw [leL_succ, numL_snoc, ih, leL_length]
    have h1 : ((b8 ((n : Int) / 2 ^ (8 * k))).toNat : Int) = ((n / 2 ^ (8 * k) % 256 : Nat) : Int) := by
      have e : (n : Int) / 2 ^ (8 * k) = ((n / 2 ^ (8 * k) : Nat) : Int) := by norm_cast
      rw [b8_nat, e]; norm_cast
    have h2 : (b8 ((n : Int) / 2 ^ (8 * k))).toNat = n / 2 ^ (8 * k) % 256 := by exact_mod_cast h1
    rw [h2, show 8 * (k + 1) = 8 * k + 8 by omega, Nat.pow_add, Nat.mod_mul, Nat.mul_comm (2 ^ (8 * k))]

abbrev Rd (w : World) (g : Nat) (s : List UInt8) : Prop := w.heap[g]? = some (.cells (rdCells (ba s) 0) 127)

theorem rbytes_l (a r : List UInt8) (n g : Nat) (w : World) (hg : Rd w g (a ++ r)) (hn : a.length = n) :
    Calls Tryd.prog 48 #[.pointer (some ⟨g, 0, none⟩), .int .i64 n] w fun e w' => e = .returned (.string (ba a)) ∧ Rd w' g r ∧ Upd [g] w [g] w' := by
  refine (rbytes_ok (ba (a ++ r)) n g w hg (by rw [ba_size, List.length_append]; omega)).mono ?_
  rintro e w' ⟨rfl, h1, h2⟩
  rw [ba_right a r n hn] at h1
  exact ⟨by rw [ba_left a r n hn], h1, h2⟩

theorem rnumber_l (k n : Nat) (r : List UInt8) (g : Nat) (w : World) (hg : Rd w g (leL k n ++ r)) (hk : 1 ≤ k ∧ k ≤ 7) (hn : n < 2 ^ (8 * k)) :
    Calls Tryd.prog 49 #[.pointer (some ⟨g, 0, none⟩), .int .i64 k] w fun e w' => e = .returned (.int .i64 n) ∧ Rd w' g r ∧ Upd [g] w [g] w' := by
  refine (rnumber_ok (ba (leL k n ++ r)) k g w hg hk (by rw [ba_size, List.length_append, leL_length]; omega)).mono ?_
  rintro e w' ⟨rfl, h1, h2⟩
  rw [ba_right _ r k (leL_length _ _)] at h1
  have e : numT ((ba (leL k n ++ r)).extract 0 k) = n := by
    rw [ba_left _ r k (leL_length _ _)]
    show numL (leL k n).toArray.toList = n
    rw [List.toList_toArray, numL_leL, Nat.mod_eq_of_lt hn]
  exact ⟨by rw [e], h1, h2⟩

theorem rtext_l (a r : List UInt8) (g : Nat) (w : World) (hg : Rd w g (leL 1 a.length ++ (a ++ r))) (hn : a.length ≤ 255) :
    Calls Tryd.prog 50 #[.pointer (some ⟨g, 0, none⟩), .int .i64 1] w fun e w' => e = .returned (.string (ba a)) ∧ Rd w' g r ∧ Upd [g] w [g] w' := by
  have HC := Lib.hid (rnumber_l 1 a.length (a ++ r) g w hg (by omega) (by omega))
  clear hg
  go_enter Tryd.func50, Tryd.ntmps50
  go_wp2_with fail
  refine HC.out.mono ?_
  rintro e w1 ⟨rfl, h1, h2⟩
  go_wp2_with fail
  refine (rbytes_l a r a.length g w1 h1 rfl).mono ?_
  rintro e w2 ⟨rfl, h3, h4⟩
  go_wp2
  go_ret
  exact ⟨rfl, h3, h2.trans h4⟩

theorem ba_eta (s : ByteArray) : ba s.data.toList = s := by cases s; simp [ba]
theorem enT_list (x : En) : (enT x).data.toList = leL 1 x.key.data.toList.length ++ (x.key.data.toList ++ (x.sum.data.toList ++ (leL 2 x.len ++ (leL 2 x.at' ++ [])))) := by
  have h : x.key.size = x.key.data.toList.length := by rw [Array.length_toList]; rfl
  simp only [enT, ByteArray.data_append, Array.toList_append, le, h, List.append_assoc, List.append_nil]
theorem hdT_list (seq n : Nat) : (hdT seq n).data.toList = [80, 76] ++ (leL 6 seq ++ (leL 1 n ++ [])) := by
  simp only [hdT, ByteArray.data_append, Array.toList_append, le, List.append_assoc, List.append_nil]
theorem textL_list (seq : Nat) (l : List En) : textL seq l = [80, 76] ++ (leL 6 seq ++ (leL 1 l.length ++ bodyL l)) := by
  rw [textL, hdT_list]; simp
theorem encB_size (R : List Int) (seq : Nat) (l : List En) : (encB R seq l).size = (textL seq l).length + 32 := by
  rw [encB, ByteArray.size_append, sumOf_size]; rfl
theorem encB_left (R : List Int) (seq : Nat) (l : List En) : (encB R seq l).extract 0 ((encB R seq l).size - 32) = ba (textL seq l) := by
  rw [encB_size]; apply ByteArray.ext
  simp [encB, ba]
theorem encB_right (R : List Int) (seq : Nat) (l : List En) : (encB R seq l).extract ((encB R seq l).size - 32) (encB R seq l).size = sumOf R (ba (textL seq l)) := by
  have h := sumOf_size R (ba (textL seq l))
  have e : encB R seq l = ba (textL seq l) ++ sumOf R (ba (textL seq l)) := rfl
  rw [encB_size, e]
  generalize sumOf R (ba (textL seq l)) = d at h
  have h' : d.data.size = 32 := h
  apply ByteArray.ext
  simp [ba, h']

structure DecS (w0 : World) (bb : Nat) (seq : Nat) (v : Value) (l : List En) (w : World) : Prop where
  blk : w.heap[bb]? = some (.cells #[.int .i64 seq, v] 57 (0, 0))
  row : Row w (bb + 1) v l
  kept : Kept w0 w

section
variable {w0 w w' : World} {bb gr seq : Nat} {v : Value} {l : List En}
theorem DecS.upd (h : DecS w0 bb seq v l w) (hg : w0.heap.size ≤ gr) (hlt : gr < bb) (hu : Upd [gr] w [gr] w') : DecS w0 bb seq v l w' :=
  ⟨(hu.block bb (lt_blk h.blk) (by simp; omega)).trans h.blk, ownsRow_heap h.row (fun k hk => hu.block k (World.ownsRow.lt h.row k hk).2 (by have := (World.ownsRow.lt h.row k hk).1; simp; omega)), Below.trans h.kept (hu.below h.kept.size (by simpa using hg))⟩
theorem DecS.step (h : DecS w0 bb seq v l w) (hk : Kept w w') : DecS w0 bb seq v l w' :=
  ⟨(hk.heap (lt_blk h.blk)).trans h.blk, h.row.kept hk, Kept.trans h.kept hk⟩
theorem DecS.c1 (h : DecS w0 bb seq v l w) : w.cell? ⟨bb, 1, none⟩ = some v := by rw [cell_blk h.blk]; rfl
theorem DecS.f1 (h : DecS w0 bb seq v l w) : w.frozen? ⟨bb, 1, none⟩ = false := frozen_blk h.blk
theorem DecS.lt (h : DecS w0 bb seq v l w) : bb < w.heap.size := lt_blk h.blk
end

theorem esCells_snoc (l : List En) (x : En) : esCells (l ++ [x]) = esCells l ++ enCells x := by simp [esCells]
theorem Tryd.infoEn : (Tryd.prog.info? 69).map (fun i => (i.zero, i.size, i.bytes)) = some (some (.agg #[.string ⟨#[]⟩, .string ⟨#[]⟩, .int .i64 0, .int .i64 0]), 4, 48) := by kernel_rfl

section
variable {w0 w w' : World} {bb gr seq : Nat} {v : Value} {l : List En}
theorem Rd.al {w : World} {g : Nat} {s : List UInt8} (h : Rd w g s) (o : Obj) : Rd (w.alloc o) g s := (heap_alloc_old w o g (lt_blk h)).trans h
theorem DecS.al (h : DecS w0 bb seq v l w) (o : Obj) : DecS w0 bb seq v l (w.alloc o) := h.step ((Below.refl _ _).alloc (Nat.le_refl _) o)
theorem DecS.nb (h : DecS w0 bb seq v l w) {k : Nat} (hk : k ≤ bb) : v.ownBlock ≠ some k := fun e => by have := (World.ownsRow.lt h.row k e).1; omega
theorem DecS.app (h : DecS w0 bb seq v l w) (hg : w.grownBy w' v.ownBlock) (v2 : Value) (x : En) (hw0 : w0.heap.size ≤ bb) (ho : w'.ownsRow (bb + 1) 69 4 v2 (l.length + 1) (esCells l ++ enCells x)) :
    DecS w0 bb seq v2 (l ++ [x]) (w'.setCell ⟨bb, 1, none⟩ v2) := by
  refine ⟨?_, ?_, ?_⟩
  · rw [heap_set_eq _ _ _ _ ((hg.block bb h.lt (fun e => h.nb (Nat.le_refl _) e.symm)).trans h.blk)]; simp
  · have : Row w' (bb + 1) v2 (l ++ [x]) := by unfold Row; rw [esCells_snoc, List.length_append]; exact ho
    exact ownsRow_heap this (fun k hk => heap_set_ne _ _ _ _ _ (by have := (World.ownsRow.lt this k hk).1; omega))
  · refine Below.trans h.kept (Below.setCell (p := ⟨bb, 1, none⟩) ?_ hw0 _)
    exact (Below.refl _ _).grown hg h.kept.size (fun k hk => by have := (World.ownsRow.lt h.row k hk).1; omega)
theorem DecS.rd (h : DecS w0 bb seq v l w) (hg : w.grownBy w' v.ownBlock) (v2 : Value) {s : List UInt8} (hlt : gr < bb) (hr : Rd w gr s) : Rd (w'.setCell ⟨bb, 1, none⟩ v2) gr s := by
  unfold Rd
  rw [heap_set_ne _ _ _ _ _ (by omega), hg.block gr (by have := h.lt; omega) (fun e => h.nb (by omega) e.symm)]
  exact hr
end

theorem dec_append {ops : Array Oper} {o : Oper} {a : Act} {K : Act → World → Prop} {Q : Exit → Act → World → Prop} {E : Prop} (hgd : o.guard = none) (so xo : Operand) (t : TypeId)
    (ho : o.op = .call { callee := .builtin .append, args := #[so, xo], argTypes := #[t, t] }) (htt : t = 45)
    {w0 w : World} {bb seq : Nat} {p : Option Addr} {c : Nat} {pre : List En} (x : En) (hD : DecS w0 bb seq (.slice p pre.length c) pre w)
    (hs : a.eval so = .slice p pre.length c) (hx : a.eval xo = .slice (some ⟨w.heap.size, 0, none⟩) 1 1) (hn : pre.length ≤ 1000)
    (h : ∀ g cap w2, w2.ownsRow (bb + 1) 69 4 (.slice (some ⟨g, 0, none⟩) (pre.length + 1) cap) (pre.length + 1) (esCells pre ++ enCells x) →
      (w.alloc (.cells (enCells x).toArray 69)).grownBy w2 (Value.slice p pre.length c).ownBlock → w2.cell? ⟨bb, 1, none⟩ = some (.slice p pre.length c) → w2.frozen? ⟨bb, 1, none⟩ = false → K (a.put o.dst (.slice (some ⟨g, 0, none⟩) (pre.length + 1) cap)) w2) :
    if Region.wanted o (yielded ops a.tmps) = true then Oper.wp Tryd.prog o a (w.alloc (.cells (enCells x).toArray 69)) K Q else E := by
  obtain ⟨i0, hi, hz0, hz1, hz2⟩ := info_parts Tryd.infoEn
  subst htt
  refine step_append_lies _ hgd so xo _ ho (bb + 1) 69 i0 _ 4 48 Tryd.underlying45 hi hz0 hz1 hz2 rfl (by omega) (.slice p pre.length c) pre.length (esCells pre) hs (hD.al _).row
    ⟨w.heap.size, 0, none⟩ 1 1 (enCells x) hx (by rfl) (World.news_of_block (cs := (enCells x).toArray) (t := 69) (fr := (0, 0)) (heap_alloc_new w _)) (by simp [Value.oneCell', enCells])
    (by omega) (by unfold maxLen; omega) (by omega) (by have := hD.lt; simp; omega) _ rfl ?_
  intro g cap w2 hown2 hgrow hat hlt
  have hDa := hD.al (.cells (enCells x).toArray 69)
  have k0 := (hgrow.block bb hDa.lt (fun e => hDa.nb (Nat.le_refl _) e.symm)).trans hDa.blk
  exact h g cap w2 hown2 hgrow (by rw [cell_blk k0]; rfl) (frozen_blk k0)

theorem bodyL_cons (x : En) (l : List En) : bodyL (x :: l) = leL 1 x.key.data.toList.length ++ (x.key.data.toList ++ (x.sum.data.toList ++ (leL 2 x.len ++ (leL 2 x.at' ++ bodyL l)))) := by
  rw [bodyL, enT_list]; simp only [List.append_assoc, List.nil_append]
theorem rtext_k (x : ByteArray) (r : List UInt8) (g : Nat) (w : World) (hg : Rd w g (leL 1 x.data.toList.length ++ (x.data.toList ++ r))) (hn : x.size ≤ 255) :
    Calls Tryd.prog 50 #[.pointer (some ⟨g, 0, none⟩), .int .i64 1] w fun e w' => e = .returned (.string x) ∧ Rd w' g r ∧ Upd [g] w [g] w' := by
  have := rtext_l x.data.toList r g w hg (by rw [Array.length_toList]; exact hn)
  rwa [ba_eta] at this
theorem rbytes_k (x : ByteArray) (r : List UInt8) (n g : Nat) (w : World) (hg : Rd w g (x.data.toList ++ r)) (hn : x.size = n) :
    Calls Tryd.prog 48 #[.pointer (some ⟨g, 0, none⟩), .int .i64 n] w fun e w' => e = .returned (.string x) ∧ Rd w' g r ∧ Upd [g] w [g] w' := by
  have := rbytes_l x.data.toList r n g w hg (by rw [Array.length_toList]; exact hn)
  rwa [ba_eta] at this

/-- too short a text -/
theorem decode_short (s : ByteArray) (w : World) (hs : s.size < 41) : Calls Tryd.prog 35 #[.string s] w fun e w' => e = .returned (.tuple #[.agg #[.int .i64 0, .slice none 0 0], .int .i64 2]) ∧ Kept w w' := by
  have h : (s.size : Int) < 41 := by omega
  go_enter Tryd.func35, Tryd.ntmps35
  go_wp2
  refine bodyPost_ret (v := .tuple #[.agg #[.int .i64 0, .slice none 0 0], .int .i64 2]) ?_ rfl ⟨rfl, (by repeat (first | exact Below.refl _ _ | assumption | refine Below.drewN ?_ _ | refine Below.drew ?_ | (refine Below.alloc' _ ?_ ?_; (focus ((first | omega | (simp; done) | (simp; omega))))) | (refine Below.setCell' _ ?_ ?_; (focus ((first | omega | (simp; done) | (simp; omega)))))))⟩
  simp [results, Tryd.results35, go_sem]

set_option maxRecDepth 100000 in
set_option maxHeartbeats 4000000 in
theorem decode_ok (R : List Int) (s : ByteArray) (seq : Nat) (l : List En) (w : World) (hR : Roots w R) (he : s = encB R seq l) (hok : OkB seq l) :
    Calls Tryd.prog 35 #[.string s] w fun e w' => ∃ v, e = .returned (.tuple #[.agg #[.int .i64 seq, v], .int .i64 0]) ∧ Row w' w.heap.size v l ∧ Kept w w' := by
  obtain ⟨hs, hl, hes⟩ := id hok
  have hT : 9 ≤ (textL seq l).length ∧ (textL seq l).length ≤ 2000 := by
    rw [textL, List.length_append]
    have h1 : (hdT seq l.length).data.toList.length = 9 := by rw [Array.length_toList]; exact hdT_size _ _
    have h2 := bodyL_le l hes
    omega
  have hz : s.size = (textL seq l).length + 32 := by rw [he]; exact encB_size _ _ _
  have hL := encB_left R seq l
  have hRt := encB_right R seq l
  rw [← he] at hL hRt
  have hcs := sumof_any R (ba (textL seq l)) (w.alloc (.cells #[.int .i64 0, .slice none 0 0] 57)).drew (hR.kept (by repeat (first | exact Below.refl _ _ | assumption | refine Below.drewN ?_ _ | refine Below.drew ?_ | (refine Below.alloc' _ ?_ ?_; (focus ((first | omega | (simp; done) | (simp; omega))))) | (refine Below.setCell' _ ?_ ?_; (focus ((first | omega | (simp; done) | (simp; omega)))))))) (by rw [ba_size]; omega)
  have h41 : ¬ (s.size : Int) < 41 := by omega
  have h32 : (32 : Int) ≤ s.size := by omega
  obtain ⟨t, ht⟩ : ∃ t, ba (textL seq l) = t := ⟨_, rfl⟩
  rw [ht] at hL hRt hcs
  obtain ⟨n, hn⟩ : ∃ n : Nat, n = s.size - 32 := ⟨_, rfl⟩
  have hn' : (s.size : Int) - 32 = n := by omega
  rw [← hn] at hL hRt
  have hns : n ≤ s.size := by omega
  have HL := Lib.hid hL
  have HRt := Lib.hid hRt
  have HCS := Lib.hid hcs
  have HT := Lib.hid ht
  have HE := Lib.hid hes
  have HOK := Lib.hid hok
  have HR := Lib.hid hR
  have hsz63 : s.size ≤ 3000 := by omega
  clear hL hRt hcs ht hes hok hR he hn hz hT
  go_enter Tryd.func35, Tryd.ntmps35
  go_wp2_with fail
  go_region
  rw [HL.out, HRt.out]
  go_wp2_with fail
  refine HCS.out.mono ?_
  rintro e w1 ⟨rfl, hk1⟩
  clear HCS
  have hkA : Kept w w1 := Kept.trans (show Kept w (w.alloc (.cells #[.int .i64 0, .slice none 0 0] 57)).drew from (by repeat (first | exact Below.refl _ _ | assumption | refine Below.drewN ?_ _ | refine Below.drew ?_ | (refine Below.alloc' _ ?_ ?_; (focus ((first | omega | (simp; done) | (simp; omega))))) | (refine Below.setCell' _ ?_ ?_; (focus ((first | omega | (simp; done) | (simp; omega)))))))) hk1
  have hzA : w.heap.size + 1 ≤ w1.heap.size := by have := hk1.size; simpa using this
  have hb0 : w1.heap[w.heap.size]? = some (.cells #[.int .i64 0, .slice none 0 0] 57 (0, 0)) := (hk1.heap (by simp)).trans (heap_alloc_new' _ _)
  have HKA := Lib.hid hkA
  have HB0 := Lib.hid hb0
  clear hk1 hkA hb0
  go_wp2_with fail
  refine (read_any t w1).mono ?_
  rintro e w2 ⟨rfl, hg2, hk2⟩
  rw [← HT.out, textL_list] at hg2
  have hz2 : w1.heap.size + 1 ≤ w2.heap.size := lt_blk hg2
  have HK2 := Lib.hid hk2
  clear hk2
  go_wp2_with fail
  refine (rbytes_l [80, 76] _ 2 w1.heap.size w2 hg2 rfl).mono ?_
  rintro e w3 ⟨rfl, hg3, hu3⟩
  clear hg2
  have hz3 := hu3.size
  have hba : ba [80, 76] = ⟨#[80, 76]⟩ := rfl
  rw [hba]
  go_wp2_with fail
  refine (rnumber_l 6 seq _ w1.heap.size w3 hg3 (by omega) (by omega)).mono ?_
  rintro e w4 ⟨rfl, hg4, hu4⟩
  clear hg3
  have hz4 := hu4.size
  go_wp2_with fail
  have hgb : w1.heap.size < w4.heap.size := by omega
  obtain ⟨bb, hbb⟩ : ∃ bb, w4.heap.size = bb := ⟨_, rfl⟩
  obtain ⟨w5, hw5⟩ : ∃ w5, w4.alloc (.cells #[.int .i64 seq, .slice none 0 0] 57) = w5 := ⟨_, rfl⟩
  have hk5 : Kept w4 w5 := by rw [← hw5]; exact (by repeat (first | exact Below.refl _ _ | assumption | refine Below.drewN ?_ _ | refine Below.drew ?_ | (refine Below.alloc' _ ?_ ?_; (focus ((first | omega | (simp; done) | (simp; omega))))) | (refine Below.setCell' _ ?_ ?_; (focus ((first | omega | (simp; done) | (simp; omega)))))))
  have hg5 : Rd w5 w1.heap.size (leL 1 l.length ++ bodyL l) := (hk5.heap (lt_blk hg4)).trans hg4
  have hD5 : DecS w1 bb seq (.slice none 0 0) [] w5 := by
    refine ⟨by rw [← hw5, ← hbb]; exact heap_alloc_new' _ _, World.ownsRow_nil _ _ _ _, ?_⟩
    exact Below.trans (Below.trans (Below.trans HK2.out (hu3.below (by omega) (by simp))) (hu4.below (by omega) (by simp))) (Below.mono hk5 (by omega))
  rw [hbb] at hgb ⊢
  rw [hw5]
  clear hw5 hbb hu3 hu4 hg4 hz3 hz4 hz2 hk5
  refine (rnumber_l 1 l.length (bodyL l) w1.heap.size w5 hg5 (by omega) (by omega)).mono ?_
  rintro e w6 ⟨rfl, hg6, hu6⟩
  have hD6 := hD5.upd (Nat.le_refl _) hgb hu6
  have HG6 := Lib.hid hg6
  have HD6 := Lib.hid hD6
  clear hg5 hD5 hg6 hu6 hD6
  obtain ⟨i0, hi, hz0, hz1, hz2⟩ := info_parts Tryd.infoEn
  go_wp2
  go_loopw [38] (fun i wr => ∃ (pre post : List En) (p : Option Addr) (c : Nat), l = pre ++ post ∧ i = .int .i64 pre.length ∧ DecS w1 bb seq (.slice p pre.length c) pre wr ∧ Rd wr w1.heap.size (bodyL post)) (fun i _ => (l.length - intOf i).toNat)
  case atStart => exact ⟨[], l, none, 0, rfl, rfl, HD6.out, HG6.out⟩
  case round =>
    obtain ⟨pre, post, p, c, hpp, rfl, hD, hg⟩ := hrel
    have hpl : l.length = pre.length + post.length := by rw [hpp, List.length_append]
    cases post with
    | nil =>
      simp only [List.length_nil] at hpl
      have hc : ¬ ((pre.length : Int) < l.length) := by omega
      rw [List.append_nil] at hpp
      subst hpp
      clear hpl
      have b0 : wr.cell? ⟨bb, 0, none⟩ = some (.int .i64 seq) := by rw [cell_blk hD.blk]; rfl
      have b1 := hD.c1
      have HCH := Lib.hid (check_ok (bb + 1) _ seq l wr hD.row HOK.out)
      have HEND := Lib.hid (rend_ok w1.heap.size wr hg)
      have HD := Lib.hid hD
      clear hD hg
      go_wp2_with fail
      refine HEND.out.mono ?_
      rintro e w7 ⟨rfl, hw7⟩
      subst hw7
      go_wp2_with fail
      refine HCH.out.mono ?_
      rintro e w8 ⟨rfl, hk8⟩
      have hD8 := HD.out.step hk8
      have c0 := cell_blk (o := 0) hD8.blk
      have c1 := hD8.c1
      have hkw8 : Kept w1 w8 := hD8.kept
      have hr0 : w8.heap[w.heap.size]? = _ := (hkw8.heap (by omega)).trans HB0.out
      have r0 := cell_blk (o := 0) hr0
      have r1 := cell_blk (o := 1) hr0
      have rz : ∀ o, w8.frozen? ⟨w.heap.size, o, none⟩ = false := fun o => frozen_blk hr0
      have HD8 := Lib.hid hD8
      have HR0 := Lib.hid hr0
      clear hD8 hr0 hkw8
      go_wp2
      obtain ⟨W, hW⟩ : ∃ W, (w8.setCell ⟨w.heap.size, 0, none⟩ (.int .i64 seq)).setCell ⟨w.heap.size, 1, none⟩ (.slice p l.length c) = W := ⟨_, rfl⟩
      have hb : W.heap[w.heap.size]? = some (.cells #[.int .i64 seq, .slice p l.length c] 57 (0, 0)) := by
        rw [← hW, heap_set_eq _ _ _ _ (heap_set_eq _ _ _ _ HR0.out)]; simp
      have h1 : ∀ k, k ≠ w.heap.size → W.heap[k]? = w8.heap[k]? := fun k hk => by rw [← hW, heap_set_ne _ _ _ _ _ hk, heap_set_ne _ _ _ _ _ hk]
      have hrow : Row W w.heap.size (.slice p l.length c) l := by
        have h2 := HD8.out.row
        have h3 : Row W (bb + 1) (.slice p l.length c) l := ownsRow_heap h2 (fun k hk => h1 k (by have := (World.ownsRow.lt h2 k hk).1; omega))
        refine ⟨h3.1, h3.2.imp id ?_⟩
        rintro ⟨g, cap, cur, h4, h5, h6⟩
        exact ⟨g, cap, cur, h4, by omega, h6⟩
      have hkW : Kept w W := by
        have := HKA.out.trans HD8.out.kept
        rw [← hW]
        exact (by repeat (first | exact Below.refl _ _ | assumption | refine Below.drewN ?_ _ | refine Below.drew ?_ | (refine Below.alloc' _ ?_ ?_; (focus ((first | omega | (simp; done) | (simp; omega))))) | (refine Below.setCell' _ ?_ ?_; (focus ((first | omega | (simp; done) | (simp; omega)))))))
      rw [hW]
      have q0 : W.cell? ⟨w.heap.size, 0, none⟩ = some (.int .i64 seq) := by rw [cell_blk hb]; rfl
      have q1 : W.cell? ⟨w.heap.size, 1, none⟩ = some (.slice p l.length c) := by rw [cell_blk hb]; rfl
      refine bodyPost_ret (v := .tuple #[.agg #[.int .i64 seq, .slice p l.length c], .int .i64 0]) (by simp [results, Tryd.results35, go_sem, q0, q1]) rfl ⟨_, rfl, hrow, hkW⟩
    | cons x post =>
      simp only [List.length_cons] at hpl
      have hc : (pre.length : Int) < l.length := by omega
      have hox := HE.out x (by rw [hpp]; simp)
      obtain ⟨o1, o2, o3, o4, o5⟩ := hox
      rw [bodyL_cons] at hg
      have HPP := Lib.hid hpp
      have HPL := Lib.hid hpl
      have hpr : pre.length ≤ 7 := by omega
      clear hpl
      have hD0 : DecS w1 bb seq (.slice p pre.length c) pre wr.drew := hD.step (Below.refl _ _).drew
      have hg0 : Rd wr.drew w1.heap.size _ := hg
      have hc0 := hD0.c1
      have hlb := hD0.lt
      clear hpp hD hg
      go_wp2_with fail
      refine wp_region_noPanic ?_
      refine wp_region_held_drew (S := fun _ => True) (by kernel_rfl) trivial (fun hHeld => ?_)
      refine wpAnyH_take (i := 0) (v := ?_) rfl (by kernel_rfl) (by kernel_rfl) (by kernel_rfl) (fun _ _ _ h => h) (Or.inl ⟨by rfl, ?_⟩) (by assumption) ?_
      rotate_left
      · (intro w hSw; (try dsimp only at hSw); go_simp; (try with_reducible rfl))
      try simp only [Act.put, List.setIfInBounds_toArray, List.set_cons_zero, List.set_cons_succ]
      refine wpAnyH_take (i := 2) (v := ?_) rfl (by kernel_rfl) (by kernel_rfl) (by kernel_rfl) (fun _ _ _ h => h) (Or.inl ⟨by rfl, ?_⟩) (by assumption) ?_
      rotate_left
      · (intro w hSw; (try dsimp only at hSw); go_simp; (try with_reducible rfl))
      try simp only [Act.put, List.setIfInBounds_toArray, List.set_cons_zero, List.set_cons_succ]
      refine wpAnyH_take (i := 4) (v := ?_) rfl (by kernel_rfl) (by kernel_rfl) (by kernel_rfl) (fun _ _ _ h => h) (Or.inl ⟨by rfl, ?_⟩) (by assumption) ?_
      rotate_left
      · (intro w hSw; (try dsimp only at hSw); go_simp; (try with_reducible rfl))
      try simp only [Act.put, List.setIfInBounds_toArray, List.set_cons_zero, List.set_cons_succ]
      refine wpAnyH_take (i := 6) (v := ?_) rfl (by kernel_rfl) (by kernel_rfl) (by kernel_rfl) (fun _ _ _ h => h) (Or.inl ⟨by rfl, ?_⟩) (by assumption) ?_
      rotate_left
      · (intro w hSw; (try dsimp only at hSw); go_simp; (try with_reducible rfl))
      try simp only [Act.put, List.setIfInBounds_toArray, List.set_cons_zero, List.set_cons_succ]
      refine wpAnyH_take (i := 8) (v := ?_) rfl (by kernel_rfl) (by kernel_rfl) (by kernel_rfl) (fun _ _ _ h => h) (Or.inl ⟨by rfl, ?_⟩) (by assumption) ?_
      rotate_left
      · (intro w hSw; (try dsimp only at hSw); go_simp; (try with_reducible rfl))
      try simp only [Act.put, List.setIfInBounds_toArray, List.set_cons_zero, List.set_cons_succ]
      refine wpAnyH_ready (rs := [1, 3]) (by kernel_rfl) (by simp) ?_
      refine AllReadyH.cons rfl (fun K hK => ?_) (AllReadyH.cons rfl (fun K hK => ?_) AllReadyH.nil)
      · skip
        go_simp
        refine hK.out _ _ trivial (fun _ => ?_)
        clear hK K
        try simp only [Act.put, List.setIfInBounds_toArray, List.set_cons_zero, List.set_cons_succ]
        refine wpAnyH_ready (rs := [3]) (by kernel_rfl) (by simp) ?_
        refine AllReadyH.cons rfl (fun K hK => ?_) AllReadyH.nil
        go_simp
        go_at_call 50
        refine (rtext_k _ _ w1.heap.size _ (by assumption) (by omega)).mono ?_
        rintro e w' ⟨rfl, hg, hu⟩
        have hD := DecS.upd (by assumption) (Nat.le_refl _) hgb hu
        have hcc := hD.c1
        have hlb := hD.lt
        go_wp2_with fail
        refine hK.out _ _ trivial (fun _ => ?_)
        clear hK K
        try simp only [Act.put, List.setIfInBounds_toArray, List.set_cons_zero, List.set_cons_succ]
        refine wpAnyH_ready (rs := [5]) (by kernel_rfl) (by simp) ?_
        refine AllReadyH.cons rfl (fun K hK => ?_) AllReadyH.nil
        go_simp
        go_at_call 48
        refine (rbytes_k _ _ 32 w1.heap.size _ (by assumption) (by omega)).mono ?_
        rintro e w' ⟨rfl, hg, hu⟩
        have hD := DecS.upd (by assumption) (Nat.le_refl _) hgb hu
        have hcc := hD.c1
        have hlb := hD.lt
        go_wp2_with fail
        refine hK.out _ _ trivial (fun _ => ?_)
        clear hK K
        try simp only [Act.put, List.setIfInBounds_toArray, List.set_cons_zero, List.set_cons_succ]
        refine wpAnyH_ready (rs := [7]) (by kernel_rfl) (by simp) ?_
        refine AllReadyH.cons rfl (fun K hK => ?_) AllReadyH.nil
        go_simp
        go_at_call 49
        refine (rnumber_l 2 _ _ w1.heap.size _ (by assumption) (by omega) (by omega)).mono ?_
        rintro e w' ⟨rfl, hg, hu⟩
        have hD := DecS.upd (by assumption) (Nat.le_refl _) hgb hu
        have hcc := hD.c1
        have hlb := hD.lt
        go_wp2_with fail
        refine hK.out _ _ trivial (fun _ => ?_)
        clear hK K
        try simp only [Act.put, List.setIfInBounds_toArray, List.set_cons_zero, List.set_cons_succ]
        refine wpAnyH_ready (rs := [9]) (by kernel_rfl) (by simp) ?_
        refine AllReadyH.cons rfl (fun K hK => ?_) AllReadyH.nil
        go_simp
        go_at_call 49
        refine (rnumber_l 2 _ _ w1.heap.size _ (by assumption) (by omega) (by omega)).mono ?_
        rintro e w' ⟨rfl, hg, hu⟩
        have hD := DecS.upd (by assumption) (Nat.le_refl _) hgb hu
        have hcc := hD.c1
        have hlb := hD.lt
        go_wp2_with fail
        refine hK.out _ _ trivial (fun _ => ?_)
        clear hK K
        try simp only [Act.put, List.setIfInBounds_toArray, List.set_cons_zero, List.set_cons_succ]
        refine wpAnyH_take (i := 10) (v := ?_) rfl (by kernel_rfl) (by kernel_rfl) (by kernel_rfl) (fun _ _ _ h => h) (Or.inl ⟨by rfl, ?_⟩) (by assumption) ?_
        rotate_left
        · (intro w hSw; (try dsimp only at hSw); go_simp; (try with_reducible rfl))
        try simp only [Act.put, List.setIfInBounds_toArray, List.set_cons_zero, List.set_cons_succ]
        refine wpAnyH_ready (rs := [11]) (by kernel_rfl) (by simp) ?_
        refine AllReadyH.cons rfl (fun K hK => ?_) AllReadyH.nil
        go_simp
        refine hK.out _ _ trivial (fun _ => ?_)
        clear hK K
        try simp only [Act.put, List.setIfInBounds_toArray, List.set_cons_zero, List.set_cons_succ]
        refine wpAnyH_ready (rs := [12]) (by kernel_rfl) (by simp) ?_
        refine AllReadyH.cons rfl (fun K hK => ?_) AllReadyH.nil
        refine dec_append (by rfl) _ _ _ (by rfl) (by rfl) x (by assumption) (by rfl) (by rfl) (by omega) ?_
        intro gg cap w2 hown2 hgrow k4 k5
        refine hK.out _ _ trivial (fun _ => ?_)
        clear hK K
        try simp only [Act.put, List.setIfInBounds_toArray, List.set_cons_zero, List.set_cons_succ]
        refine wpAnyH_take (i := 13) (v := ?_) rfl (by kernel_rfl) (by kernel_rfl) (by kernel_rfl) (fun _ _ _ h => h) (Or.inl ⟨by rfl, ?_⟩) (by assumption) ?_
        rotate_left
        · (intro w hSw; (try dsimp only at hSw); go_simp; (try with_reducible rfl))
        try simp only [Act.put, List.setIfInBounds_toArray, List.set_cons_zero, List.set_cons_succ]
        refine wpAnyH_ready (rs := [14]) (by kernel_rfl) (by simp) ?_
        refine AllReadyH.cons rfl (fun K hK => ?_) AllReadyH.nil
        go_simp
        refine hK.out _ _ trivial (fun _ => ?_)
        clear hK K
        refine wpAnyH_done (by kernel_rfl) ?_ _
        refine NoPanic.normal ?_
        try dsimp only [Exit.then]
        go_wp2
        go_roundw
        case rel =>
          have e : (pre ++ [x]).length = pre.length + 1 := by simp
          refine ⟨pre ++ [x], post, some ⟨gg, 0, none⟩, cap, by rw [HPP.out]; simp, by rw [e]; rfl, ?_, ?_⟩
          · rw [e]; exact DecS.app (DecS.al hD _) hgrow _ x (by omega) hown2
          · exact DecS.rd (DecS.al hD _) hgrow _ hgb (Rd.al hg _)
        case measure => simp [intOf]; omega
      · skip
        go_simp
        go_at_call 50
        refine (rtext_k _ _ w1.heap.size _ (by assumption) (by omega)).mono ?_
        rintro e w' ⟨rfl, hg, hu⟩
        have hD := DecS.upd (by assumption) (Nat.le_refl _) hgb hu
        have hcc := hD.c1
        have hlb := hD.lt
        go_wp2_with fail
        refine hK.out _ _ trivial (fun _ => ?_)
        clear hK K
        try simp only [Act.put, List.setIfInBounds_toArray, List.set_cons_zero, List.set_cons_succ]
        refine wpAnyH_ready (rs := [1, 5]) (by kernel_rfl) (by simp) ?_
        refine AllReadyH.cons rfl (fun K hK => ?_) (AllReadyH.cons rfl (fun K hK => ?_) AllReadyH.nil)
        · skip
          go_simp
          refine hK.out _ _ trivial (fun _ => ?_)
          clear hK K
          try simp only [Act.put, List.setIfInBounds_toArray, List.set_cons_zero, List.set_cons_succ]
          refine wpAnyH_ready (rs := [5]) (by kernel_rfl) (by simp) ?_
          refine AllReadyH.cons rfl (fun K hK => ?_) AllReadyH.nil
          go_simp
          go_at_call 48
          refine (rbytes_k _ _ 32 w1.heap.size _ (by assumption) (by omega)).mono ?_
          rintro e w' ⟨rfl, hg, hu⟩
          have hD := DecS.upd (by assumption) (Nat.le_refl _) hgb hu
          have hcc := hD.c1
          have hlb := hD.lt
          go_wp2_with fail
          refine hK.out _ _ trivial (fun _ => ?_)
          clear hK K
          try simp only [Act.put, List.setIfInBounds_toArray, List.set_cons_zero, List.set_cons_succ]
          refine wpAnyH_ready (rs := [7]) (by kernel_rfl) (by simp) ?_
          refine AllReadyH.cons rfl (fun K hK => ?_) AllReadyH.nil
          go_simp
          go_at_call 49
          refine (rnumber_l 2 _ _ w1.heap.size _ (by assumption) (by omega) (by omega)).mono ?_
          rintro e w' ⟨rfl, hg, hu⟩
          have hD := DecS.upd (by assumption) (Nat.le_refl _) hgb hu
          have hcc := hD.c1
          have hlb := hD.lt
          go_wp2_with fail
          refine hK.out _ _ trivial (fun _ => ?_)
          clear hK K
          try simp only [Act.put, List.setIfInBounds_toArray, List.set_cons_zero, List.set_cons_succ]
          refine wpAnyH_ready (rs := [9]) (by kernel_rfl) (by simp) ?_
          refine AllReadyH.cons rfl (fun K hK => ?_) AllReadyH.nil
          go_simp
          go_at_call 49
          refine (rnumber_l 2 _ _ w1.heap.size _ (by assumption) (by omega) (by omega)).mono ?_
          rintro e w' ⟨rfl, hg, hu⟩
          have hD := DecS.upd (by assumption) (Nat.le_refl _) hgb hu
          have hcc := hD.c1
          have hlb := hD.lt
          go_wp2_with fail
          refine hK.out _ _ trivial (fun _ => ?_)
          clear hK K
          try simp only [Act.put, List.setIfInBounds_toArray, List.set_cons_zero, List.set_cons_succ]
          refine wpAnyH_take (i := 10) (v := ?_) rfl (by kernel_rfl) (by kernel_rfl) (by kernel_rfl) (fun _ _ _ h => h) (Or.inl ⟨by rfl, ?_⟩) (by assumption) ?_
          rotate_left
          · (intro w hSw; (try dsimp only at hSw); go_simp; (try with_reducible rfl))
          try simp only [Act.put, List.setIfInBounds_toArray, List.set_cons_zero, List.set_cons_succ]
          refine wpAnyH_ready (rs := [11]) (by kernel_rfl) (by simp) ?_
          refine AllReadyH.cons rfl (fun K hK => ?_) AllReadyH.nil
          go_simp
          refine hK.out _ _ trivial (fun _ => ?_)
          clear hK K
          try simp only [Act.put, List.setIfInBounds_toArray, List.set_cons_zero, List.set_cons_succ]
          refine wpAnyH_ready (rs := [12]) (by kernel_rfl) (by simp) ?_
          refine AllReadyH.cons rfl (fun K hK => ?_) AllReadyH.nil
          refine dec_append (by rfl) _ _ _ (by rfl) (by rfl) x (by assumption) (by rfl) (by rfl) (by omega) ?_
          intro gg cap w2 hown2 hgrow k4 k5
          refine hK.out _ _ trivial (fun _ => ?_)
          clear hK K
          try simp only [Act.put, List.setIfInBounds_toArray, List.set_cons_zero, List.set_cons_succ]
          refine wpAnyH_take (i := 13) (v := ?_) rfl (by kernel_rfl) (by kernel_rfl) (by kernel_rfl) (fun _ _ _ h => h) (Or.inl ⟨by rfl, ?_⟩) (by assumption) ?_
          rotate_left
          · (intro w hSw; (try dsimp only at hSw); go_simp; (try with_reducible rfl))
          try simp only [Act.put, List.setIfInBounds_toArray, List.set_cons_zero, List.set_cons_succ]
          refine wpAnyH_ready (rs := [14]) (by kernel_rfl) (by simp) ?_
          refine AllReadyH.cons rfl (fun K hK => ?_) AllReadyH.nil
          go_simp
          refine hK.out _ _ trivial (fun _ => ?_)
          clear hK K
          refine wpAnyH_done (by kernel_rfl) ?_ _
          refine NoPanic.normal ?_
          try dsimp only [Exit.then]
          go_wp2
          go_roundw
          case rel =>
            have e : (pre ++ [x]).length = pre.length + 1 := by simp
            refine ⟨pre ++ [x], post, some ⟨gg, 0, none⟩, cap, by rw [HPP.out]; simp, by rw [e]; rfl, ?_, ?_⟩
            · rw [e]; exact DecS.app (DecS.al hD _) hgrow _ x (by omega) hown2
            · exact DecS.rd (DecS.al hD _) hgrow _ hgb (Rd.al hg _)
          case measure => simp [intOf]; omega
        · skip
          go_simp
          go_at_call 48
          refine (rbytes_k _ _ 32 w1.heap.size _ (by assumption) (by omega)).mono ?_
          rintro e w' ⟨rfl, hg, hu⟩
          have hD := DecS.upd (by assumption) (Nat.le_refl _) hgb hu
          have hcc := hD.c1
          have hlb := hD.lt
          go_wp2_with fail
          refine hK.out _ _ trivial (fun _ => ?_)
          clear hK K
          try simp only [Act.put, List.setIfInBounds_toArray, List.set_cons_zero, List.set_cons_succ]
          refine wpAnyH_ready (rs := [1, 7]) (by kernel_rfl) (by simp) ?_
          refine AllReadyH.cons rfl (fun K hK => ?_) (AllReadyH.cons rfl (fun K hK => ?_) AllReadyH.nil)
          · skip
            go_simp
            refine hK.out _ _ trivial (fun _ => ?_)
            clear hK K
            try simp only [Act.put, List.setIfInBounds_toArray, List.set_cons_zero, List.set_cons_succ]
            refine wpAnyH_ready (rs := [7]) (by kernel_rfl) (by simp) ?_
            refine AllReadyH.cons rfl (fun K hK => ?_) AllReadyH.nil
            go_simp
            go_at_call 49
            refine (rnumber_l 2 _ _ w1.heap.size _ (by assumption) (by omega) (by omega)).mono ?_
            rintro e w' ⟨rfl, hg, hu⟩
            have hD := DecS.upd (by assumption) (Nat.le_refl _) hgb hu
            have hcc := hD.c1
            have hlb := hD.lt
            go_wp2_with fail
            refine hK.out _ _ trivial (fun _ => ?_)
            clear hK K
            try simp only [Act.put, List.setIfInBounds_toArray, List.set_cons_zero, List.set_cons_succ]
            refine wpAnyH_ready (rs := [9]) (by kernel_rfl) (by simp) ?_
            refine AllReadyH.cons rfl (fun K hK => ?_) AllReadyH.nil
            go_simp
            go_at_call 49
            refine (rnumber_l 2 _ _ w1.heap.size _ (by assumption) (by omega) (by omega)).mono ?_
            rintro e w' ⟨rfl, hg, hu⟩
            have hD := DecS.upd (by assumption) (Nat.le_refl _) hgb hu
            have hcc := hD.c1
            have hlb := hD.lt
            go_wp2_with fail
            refine hK.out _ _ trivial (fun _ => ?_)
            clear hK K
            try simp only [Act.put, List.setIfInBounds_toArray, List.set_cons_zero, List.set_cons_succ]
            refine wpAnyH_take (i := 10) (v := ?_) rfl (by kernel_rfl) (by kernel_rfl) (by kernel_rfl) (fun _ _ _ h => h) (Or.inl ⟨by rfl, ?_⟩) (by assumption) ?_
            rotate_left
            · (intro w hSw; (try dsimp only at hSw); go_simp; (try with_reducible rfl))
            try simp only [Act.put, List.setIfInBounds_toArray, List.set_cons_zero, List.set_cons_succ]
            refine wpAnyH_ready (rs := [11]) (by kernel_rfl) (by simp) ?_
            refine AllReadyH.cons rfl (fun K hK => ?_) AllReadyH.nil
            go_simp
            refine hK.out _ _ trivial (fun _ => ?_)
            clear hK K
            try simp only [Act.put, List.setIfInBounds_toArray, List.set_cons_zero, List.set_cons_succ]
            refine wpAnyH_ready (rs := [12]) (by kernel_rfl) (by simp) ?_
            refine AllReadyH.cons rfl (fun K hK => ?_) AllReadyH.nil
            refine dec_append (by rfl) _ _ _ (by rfl) (by rfl) x (by assumption) (by rfl) (by rfl) (by omega) ?_
            intro gg cap w2 hown2 hgrow k4 k5
            refine hK.out _ _ trivial (fun _ => ?_)
            clear hK K
            try simp only [Act.put, List.setIfInBounds_toArray, List.set_cons_zero, List.set_cons_succ]
            refine wpAnyH_take (i := 13) (v := ?_) rfl (by kernel_rfl) (by kernel_rfl) (by kernel_rfl) (fun _ _ _ h => h) (Or.inl ⟨by rfl, ?_⟩) (by assumption) ?_
            rotate_left
            · (intro w hSw; (try dsimp only at hSw); go_simp; (try with_reducible rfl))
            try simp only [Act.put, List.setIfInBounds_toArray, List.set_cons_zero, List.set_cons_succ]
            refine wpAnyH_ready (rs := [14]) (by kernel_rfl) (by simp) ?_
            refine AllReadyH.cons rfl (fun K hK => ?_) AllReadyH.nil
            go_simp
            refine hK.out _ _ trivial (fun _ => ?_)
            clear hK K
            refine wpAnyH_done (by kernel_rfl) ?_ _
            refine NoPanic.normal ?_
            try dsimp only [Exit.then]
            go_wp2
            go_roundw
            case rel =>
              have e : (pre ++ [x]).length = pre.length + 1 := by simp
              refine ⟨pre ++ [x], post, some ⟨gg, 0, none⟩, cap, by rw [HPP.out]; simp, by rw [e]; rfl, ?_, ?_⟩
              · rw [e]; exact DecS.app (DecS.al hD _) hgrow _ x (by omega) hown2
              · exact DecS.rd (DecS.al hD _) hgrow _ hgb (Rd.al hg _)
            case measure => simp [intOf]; omega
          · skip
            go_simp
            go_at_call 49
            refine (rnumber_l 2 _ _ w1.heap.size _ (by assumption) (by omega) (by omega)).mono ?_
            rintro e w' ⟨rfl, hg, hu⟩
            have hD := DecS.upd (by assumption) (Nat.le_refl _) hgb hu
            have hcc := hD.c1
            have hlb := hD.lt
            go_wp2_with fail
            refine hK.out _ _ trivial (fun _ => ?_)
            clear hK K
            try simp only [Act.put, List.setIfInBounds_toArray, List.set_cons_zero, List.set_cons_succ]
            refine wpAnyH_ready (rs := [1, 9]) (by kernel_rfl) (by simp) ?_
            refine AllReadyH.cons rfl (fun K hK => ?_) (AllReadyH.cons rfl (fun K hK => ?_) AllReadyH.nil)
            · skip
              go_simp
              refine hK.out _ _ trivial (fun _ => ?_)
              clear hK K
              try simp only [Act.put, List.setIfInBounds_toArray, List.set_cons_zero, List.set_cons_succ]
              refine wpAnyH_ready (rs := [9]) (by kernel_rfl) (by simp) ?_
              refine AllReadyH.cons rfl (fun K hK => ?_) AllReadyH.nil
              go_simp
              go_at_call 49
              refine (rnumber_l 2 _ _ w1.heap.size _ (by assumption) (by omega) (by omega)).mono ?_
              rintro e w' ⟨rfl, hg, hu⟩
              have hD := DecS.upd (by assumption) (Nat.le_refl _) hgb hu
              have hcc := hD.c1
              have hlb := hD.lt
              go_wp2_with fail
              refine hK.out _ _ trivial (fun _ => ?_)
              clear hK K
              try simp only [Act.put, List.setIfInBounds_toArray, List.set_cons_zero, List.set_cons_succ]
              refine wpAnyH_take (i := 10) (v := ?_) rfl (by kernel_rfl) (by kernel_rfl) (by kernel_rfl) (fun _ _ _ h => h) (Or.inl ⟨by rfl, ?_⟩) (by assumption) ?_
              rotate_left
              · (intro w hSw; (try dsimp only at hSw); go_simp; (try with_reducible rfl))
              try simp only [Act.put, List.setIfInBounds_toArray, List.set_cons_zero, List.set_cons_succ]
              refine wpAnyH_ready (rs := [11]) (by kernel_rfl) (by simp) ?_
              refine AllReadyH.cons rfl (fun K hK => ?_) AllReadyH.nil
              go_simp
              refine hK.out _ _ trivial (fun _ => ?_)
              clear hK K
              try simp only [Act.put, List.setIfInBounds_toArray, List.set_cons_zero, List.set_cons_succ]
              refine wpAnyH_ready (rs := [12]) (by kernel_rfl) (by simp) ?_
              refine AllReadyH.cons rfl (fun K hK => ?_) AllReadyH.nil
              refine dec_append (by rfl) _ _ _ (by rfl) (by rfl) x (by assumption) (by rfl) (by rfl) (by omega) ?_
              intro gg cap w2 hown2 hgrow k4 k5
              refine hK.out _ _ trivial (fun _ => ?_)
              clear hK K
              try simp only [Act.put, List.setIfInBounds_toArray, List.set_cons_zero, List.set_cons_succ]
              refine wpAnyH_take (i := 13) (v := ?_) rfl (by kernel_rfl) (by kernel_rfl) (by kernel_rfl) (fun _ _ _ h => h) (Or.inl ⟨by rfl, ?_⟩) (by assumption) ?_
              rotate_left
              · (intro w hSw; (try dsimp only at hSw); go_simp; (try with_reducible rfl))
              try simp only [Act.put, List.setIfInBounds_toArray, List.set_cons_zero, List.set_cons_succ]
              refine wpAnyH_ready (rs := [14]) (by kernel_rfl) (by simp) ?_
              refine AllReadyH.cons rfl (fun K hK => ?_) AllReadyH.nil
              go_simp
              refine hK.out _ _ trivial (fun _ => ?_)
              clear hK K
              refine wpAnyH_done (by kernel_rfl) ?_ _
              refine NoPanic.normal ?_
              try dsimp only [Exit.then]
              go_wp2
              go_roundw
              case rel =>
                have e : (pre ++ [x]).length = pre.length + 1 := by simp
                refine ⟨pre ++ [x], post, some ⟨gg, 0, none⟩, cap, by rw [HPP.out]; simp, by rw [e]; rfl, ?_, ?_⟩
                · rw [e]; exact DecS.app (DecS.al hD _) hgrow _ x (by omega) hown2
                · exact DecS.rd (DecS.al hD _) hgrow _ hgb (Rd.al hg _)
              case measure => simp [intOf]; omega
            · skip
              go_simp
              go_at_call 49
              refine (rnumber_l 2 _ _ w1.heap.size _ (by assumption) (by omega) (by omega)).mono ?_
              rintro e w' ⟨rfl, hg, hu⟩
              have hD := DecS.upd (by assumption) (Nat.le_refl _) hgb hu
              have hcc := hD.c1
              have hlb := hD.lt
              go_wp2_with fail
              refine hK.out _ _ trivial (fun _ => ?_)
              clear hK K
              try simp only [Act.put, List.setIfInBounds_toArray, List.set_cons_zero, List.set_cons_succ]
              refine wpAnyH_take (i := 10) (v := ?_) rfl (by kernel_rfl) (by kernel_rfl) (by kernel_rfl) (fun _ _ _ h => h) (Or.inl ⟨by rfl, ?_⟩) (by assumption) ?_
              rotate_left
              · (intro w hSw; (try dsimp only at hSw); go_simp; (try with_reducible rfl))
              try simp only [Act.put, List.setIfInBounds_toArray, List.set_cons_zero, List.set_cons_succ]
              refine wpAnyH_ready (rs := [1, 11]) (by kernel_rfl) (by simp) ?_
              refine AllReadyH.cons rfl (fun K hK => ?_) (AllReadyH.cons rfl (fun K hK => ?_) AllReadyH.nil)
              · skip
                go_simp
                refine hK.out _ _ trivial (fun _ => ?_)
                clear hK K
                try simp only [Act.put, List.setIfInBounds_toArray, List.set_cons_zero, List.set_cons_succ]
                refine wpAnyH_ready (rs := [11]) (by kernel_rfl) (by simp) ?_
                refine AllReadyH.cons rfl (fun K hK => ?_) AllReadyH.nil
                go_simp
                refine hK.out _ _ trivial (fun _ => ?_)
                clear hK K
                try simp only [Act.put, List.setIfInBounds_toArray, List.set_cons_zero, List.set_cons_succ]
                refine wpAnyH_ready (rs := [12]) (by kernel_rfl) (by simp) ?_
                refine AllReadyH.cons rfl (fun K hK => ?_) AllReadyH.nil
                refine dec_append (by rfl) _ _ _ (by rfl) (by rfl) x (by assumption) (by rfl) (by rfl) (by omega) ?_
                intro gg cap w2 hown2 hgrow k4 k5
                refine hK.out _ _ trivial (fun _ => ?_)
                clear hK K
                try simp only [Act.put, List.setIfInBounds_toArray, List.set_cons_zero, List.set_cons_succ]
                refine wpAnyH_take (i := 13) (v := ?_) rfl (by kernel_rfl) (by kernel_rfl) (by kernel_rfl) (fun _ _ _ h => h) (Or.inl ⟨by rfl, ?_⟩) (by assumption) ?_
                rotate_left
                · (intro w hSw; (try dsimp only at hSw); go_simp; (try with_reducible rfl))
                try simp only [Act.put, List.setIfInBounds_toArray, List.set_cons_zero, List.set_cons_succ]
                refine wpAnyH_ready (rs := [14]) (by kernel_rfl) (by simp) ?_
                refine AllReadyH.cons rfl (fun K hK => ?_) AllReadyH.nil
                go_simp
                refine hK.out _ _ trivial (fun _ => ?_)
                clear hK K
                refine wpAnyH_done (by kernel_rfl) ?_ _
                refine NoPanic.normal ?_
                try dsimp only [Exit.then]
                go_wp2
                go_roundw
                case rel =>
                  have e : (pre ++ [x]).length = pre.length + 1 := by simp
                  refine ⟨pre ++ [x], post, some ⟨gg, 0, none⟩, cap, by rw [HPP.out]; simp, by rw [e]; rfl, ?_, ?_⟩
                  · rw [e]; exact DecS.app (DecS.al hD _) hgrow _ x (by omega) hown2
                  · exact DecS.rd (DecS.al hD _) hgrow _ hgb (Rd.al hg _)
                case measure => simp [intOf]; omega
              · skip
                go_simp
                refine hK.out _ _ trivial (fun _ => ?_)
                clear hK K
                try simp only [Act.put, List.setIfInBounds_toArray, List.set_cons_zero, List.set_cons_succ]
                refine wpAnyH_ready (rs := [1]) (by kernel_rfl) (by simp) ?_
                refine AllReadyH.cons rfl (fun K hK => ?_) AllReadyH.nil
                go_simp
                refine hK.out _ _ trivial (fun _ => ?_)
                clear hK K
                try simp only [Act.put, List.setIfInBounds_toArray, List.set_cons_zero, List.set_cons_succ]
                refine wpAnyH_ready (rs := [12]) (by kernel_rfl) (by simp) ?_
                refine AllReadyH.cons rfl (fun K hK => ?_) AllReadyH.nil
                refine dec_append (by rfl) _ _ _ (by rfl) (by rfl) x (by assumption) (by rfl) (by rfl) (by omega) ?_
                intro gg cap w2 hown2 hgrow k4 k5
                refine hK.out _ _ trivial (fun _ => ?_)
                clear hK K
                try simp only [Act.put, List.setIfInBounds_toArray, List.set_cons_zero, List.set_cons_succ]
                refine wpAnyH_take (i := 13) (v := ?_) rfl (by kernel_rfl) (by kernel_rfl) (by kernel_rfl) (fun _ _ _ h => h) (Or.inl ⟨by rfl, ?_⟩) (by assumption) ?_
                rotate_left
                · (intro w hSw; (try dsimp only at hSw); go_simp; (try with_reducible rfl))
                try simp only [Act.put, List.setIfInBounds_toArray, List.set_cons_zero, List.set_cons_succ]
                refine wpAnyH_ready (rs := [14]) (by kernel_rfl) (by simp) ?_
                refine AllReadyH.cons rfl (fun K hK => ?_) AllReadyH.nil
                go_simp
                refine hK.out _ _ trivial (fun _ => ?_)
                clear hK K
                refine wpAnyH_done (by kernel_rfl) ?_ _
                refine NoPanic.normal ?_
                try dsimp only [Exit.then]
                go_wp2
                go_roundw
                case rel =>
                  have e : (pre ++ [x]).length = pre.length + 1 := by simp
                  refine ⟨pre ++ [x], post, some ⟨gg, 0, none⟩, cap, by rw [HPP.out]; simp, by rw [e]; rfl, ?_, ?_⟩
                  · rw [e]; exact DecS.app (DecS.al hD _) hgrow _ x (by omega) hown2
                  · exact DecS.rd (DecS.al hD _) hgrow _ hgb (Rd.al hg _)
                case measure => simp [intOf]; omega
end Go.Proofs.YtbhokalnkfdekaaDoor
