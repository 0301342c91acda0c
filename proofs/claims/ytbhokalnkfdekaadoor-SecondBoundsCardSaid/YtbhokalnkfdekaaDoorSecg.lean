/- Package second: Feed. -/
import Derived.Test.YtbhokalnkfdekaaDoorSecf
namespace Go.Proofs.YtbhokalnkfdekaaDoor
open Go.RowKit
open Go.Proofs Go.Maps

def setM (M : Nat → Option En) (p : Nat) (x : En) : Nat → Option En := fun j => if j = p then some x else M j

theorem mapV_drop (M : Nat → Option En) (p : Nat) : upd (mapV M) (p : Int) none = mapV (dropM M p) := by
  funext k
  unfold upd mapV dropM
  by_cases hk : k = (p : Int)
  · subst hk; simp
  · rw [if_neg hk]
    split
    · rename_i h0
      have : ¬ k.toNat = p := by omega
      rw [if_neg this]
    · rfl
theorem mapV_set (M : Nat → Option En) (p : Nat) (x : En) : upd (mapV M) (p : Int) (some (enV x)) = mapV (setM M p x) := by
  funext k
  unfold upd mapV setM
  by_cases hk : k = (p : Int)
  · subst hk; simp
  · rw [if_neg hk]
    split
    · rename_i h0
      have : ¬ k.toNat = p := by omega
      rw [if_neg this]
    · rfl

/-- one feeding of a place: what the cache, and the devices, are behind it -/
def feed1 (R : List Int) (g : Nat) (i : Fin 7) (key load : ByteArray) (T : Sc × Dv) : Sc × Dv :=
  let S1 : Sc := { T.1 with M := dropM T.1.M (7 * g + i.val), seq := T.1.seq + 1 }
  let D1 := T.2.write 1 ((T.1.from' : Int) + 8 * g) (encB R S1.seq (groupE S1 g (secs T.1.n g)))
  let D4 := (D1.flush.write 1 ((T.1.from' + 8 * g + 1 + i.val : Nat) : Int) load).flush
  let S3 : Sc := { S1 with M := setM S1.M (7 * g + i.val) ⟨key, sumOf R load, load.size, T.1.from' + 8 * g + 1 + i.val⟩, seq := S1.seq + 1 }
  (S3, D4.write 1 ((T.1.from' : Int) + 8 * g) (encB R S3.seq (groupE S3 g (secs T.1.n g))))

def goodFeed (key load : ByteArray) : Prop := 1 ≤ key.size ∧ key.size ≤ 60 ∧ load.size ≤ 960
instance (key load : ByteArray) : Decidable (goodFeed key load) := by unfold goodFeed; infer_instance

set_option maxRecDepth 100000 in
set_option maxHeartbeats 1000000 in
theorem feedbad_any (s d b m : Nat) (S : Sc) (D : Dv) (F : List Nat) (key load : ByteArray) (w : World) (h : IsSc w s d b m S) (hd : Devs w d D F) (hb : ¬ goodFeed key load) :
    Calls Tryd.prog 9 #[.pointer (some ⟨s, 0, none⟩), .string key, .string load] w fun e w' => e = .returned (.bool false) ∧ Kept w w' := by
  have hlt := lt_blk h.blk
  clear h hd
  by_cases h0 : key = ⟨#[]⟩
  · subst h0
    go_enter Tryd.func9, Tryd.ntmps9
    go_wp2
    go_ret
    exact ⟨rfl, (by repeat (first | exact Below.refl _ _ | assumption | refine Below.drewN ?_ _ | refine Below.drew ?_ | (refine Below.alloc' _ ?_ ?_; (focus ((first | omega | (simp; done) | (simp; omega))))) | (refine Below.setCell' _ ?_ ?_; (focus ((first | omega | (simp; done) | (simp; omega)))))))⟩
  · have hk1 : 1 ≤ key.size := by
      rcases Nat.eq_zero_or_pos key.size with hz | hz
      · exact absurd (by cases key with | mk a => have : a.size = 0 := hz; rw [Array.size_eq_zero_iff.1 this]) h0
      · exact hz
    have hkn := key_ne key hk1
    by_cases h60 : key.size ≤ 60
    · have hl : 960 < load.size := by
        rcases Nat.lt_or_ge 960 load.size with hx | hx
        · exact hx
        · exact absurd ⟨hk1, h60, hx⟩ hb
      have q1 : ¬ (60 : Int) < key.size := by omega
      have q2 : (960 : Int) < load.size := by omega
      clear hb
      go_enter Tryd.func9, Tryd.ntmps9
      go_wp2
      go_ret
      exact ⟨rfl, (by repeat (first | exact Below.refl _ _ | assumption | refine Below.drewN ?_ _ | refine Below.drew ?_ | (refine Below.alloc' _ ?_ ?_; (focus ((first | omega | (simp; done) | (simp; omega))))) | (refine Below.setCell' _ ?_ ?_; (focus ((first | omega | (simp; done) | (simp; omega)))))))⟩
    · have q1 : (60 : Int) < key.size := by omega
      clear hb
      go_enter Tryd.func9, Tryd.ntmps9
      go_wp2
      go_ret
      exact ⟨rfl, (by repeat (first | exact Below.refl _ _ | assumption | refine Below.drewN ?_ _ | refine Below.drew ?_ | (refine Below.alloc' _ ?_ ?_; (focus ((first | omega | (simp; done) | (simp; omega))))) | (refine Below.setCell' _ ?_ ?_; (focus ((first | omega | (simp; done) | (simp; omega)))))))⟩

set_option maxRecDepth 100000 in
set_option maxHeartbeats 1000000 in
theorem feedknown_any (s d b m p : Nat) (S : Sc) (D : Dv) (F : List Nat) (key load : ByteArray) (w : World) (h : IsSc w s d b m S) (hd : Devs w d D F) (hm : m ≤ 1000000) (hgood : goodFeed key load) (hl : D.lost 1 = false) (hf : findP S key = some p) :
    Calls Tryd.prog 9 #[.pointer (some ⟨s, 0, none⟩), .string key, .string load] w fun e w' => e = .returned (.bool true) ∧ Kept w w' := by
  obtain ⟨hk1, hk60, hl960⟩ := hgood
  have hkn := key_ne key hk1
  have q1 : ¬ (60 : Int) < key.size := by omega
  have q2 : ¬ (960 : Int) < load.size := by omega
  have c0 := h.c0
  have hlt := lt_blk h.blk
  have hkk : ∀ a a' a'' : Obj, Kept w (((w.alloc a).alloc a').alloc a'') := fun a a' a'' => (by repeat (first | exact Below.refl _ _ | assumption | refine Below.drewN ?_ _ | refine Below.drew ?_ | (refine Below.alloc' _ ?_ ?_; (focus ((first | omega | (simp; done) | (simp; omega))))) | (refine Below.setCell' _ ?_ ?_; (focus ((first | omega | (simp; done) | (simp; omega)))))))
  have ck : ∀ a a' a'' : Obj, (((w.alloc a).alloc a').alloc a'').cell? ⟨s, 0, none⟩ = some (.pointer (some ⟨d, 0, none⟩)) := fun a a' a'' => ((hkk a a' a'').cell (p := ⟨s, 0, none⟩) hlt).trans c0
  have hke : key.toList.isEmpty = false := by simpa using hkn
  have H := Lib.hid h
  have HD := Lib.hid hd
  have HL := Lib.hid hl
  have HF := Lib.hid hf
  clear h hd hl hf
  go_enter Tryd.func9, Tryd.ntmps9
  go_wp2_with (first
    | (go_at_call 18; refine (lost_any d D F 1 _ (HD.out.kept (by repeat (first | exact Below.refl _ _ | assumption | refine Below.drewN ?_ _ | refine Below.drew ?_ | (refine Below.alloc' _ ?_ ?_; (focus ((first | omega | (simp; done) | (simp; omega))))) | (refine Below.setCell' _ ?_ ?_; (focus ((first | omega | (simp; done) | (simp; omega))))))))).mono ?_; rintro e w' ⟨rfl, rfl⟩; rw [HL.out]))
  have hc := find_any s d b m S key _ (H.out.kept (hkk (.cells #[.pointer (some ⟨s, 0, none⟩)] 27) (.cells #[.string key] 9) (.cells #[.string load] 9))) hm
  rw [HF.out] at hc
  simp only [foundV] at hc
  refine hc.mono ?_
  rintro e w' ⟨rfl, hk⟩
  go_wp2
  go_ret
  exact ⟨rfl, Kept.trans (hkk _ _ _) hk⟩
end Go.Proofs.YtbhokalnkfdekaaDoor
