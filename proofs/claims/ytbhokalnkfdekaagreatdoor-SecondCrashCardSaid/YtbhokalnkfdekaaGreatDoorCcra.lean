/- SecondCrash: behind a crash, whatever is kept, and opened again, what a second cache finds is what was fed under its key; for every input that the row lets in (the digests' table starts as the program's text lays it). -/
import Derived.Test.YtbhokalnkfdekaaGreatDoorRow
import Derived.Test.YtbhokalnkfdekaaGreatDoorLcrb
namespace Go.Proofs.YtbhokalnkfdekaaGreatDoor
open Go.RowKit
open Go.ChangeShapes Go.WideShapes Go.ChangeAt Go.Deep

set_option maxRecDepth 100000 in
theorem open_keep {H : Type} {enc : TypeId × Value → H} {W : World} {base : Nat} {v : Value} {d : DataW H} {p : List MemPlace} (hv : Value.okWide Tryz.prog W .any base 23 v) (h : DataW.Trod enc Tryz.prog W 0 (fun _ => true) true 23 v d p) :
    ∃ l : List Bool, Bools W v l ∧ l.length ≤ maxLen := by
  obtain ⟨n, hn⟩ := h
  obtain ⟨a, len, cap, rfl⟩ := okWide_slice Tryz.underlying23 hv
  rcases open_bools Tryz.underlying23 Tryz.underlying4 cellsBool hn with ⟨hc, _⟩ | ⟨a', len', cap', B, hc, _, hl, hm, _, hall⟩
  · simp [Value.cells] at hc
    obtain ⟨rfl, rfl, rfl⟩ := hc
    exact ⟨[], .inl ⟨rfl, _, _, rfl⟩, by simp⟩
  · simp [Value.cells] at hc
    obtain ⟨rfl, rfl, rfl⟩ := hc
    refine ⟨(List.range len).map B, ?_, by simp; omega⟩
    by_cases hlen : len = 0
    · subst hlen
      exact .inl ⟨rfl, _, _, rfl⟩
    · have h0 := hall 0 (by omega)
      have h0' : W.cell? a' = some (.bool (B 0)) := by simpa [Addr.add] using h0
      have ha := spot_none h0'
      have hlt := World.block_lt_of_cell? W _ h0'
      rw [ha]
      refine .inr ⟨a'.block, a'.off, cap, by simp, hlt, fun j hj => ?_⟩
      have hjl : j < len := by simpa using hj
      have c0 := hall j (by omega)
      rw [ha, add_none] at c0
      rw [c0]
      simp [hjl]

set_option maxRecDepth 100000 in
theorem contract_crash (H : Type) (enc : TypeId × Value → H) (W : World) (base : Nat) (args : Array Value) (ds gs : List (DataW H)) (before : List MemPlace)
    (hval : ∀ (j : Nat) t v, Tryz.f3.params[j]? = some t → args[j]? = some v → Value.okWide Tryz.prog W .any base t v)
    (hW : DataW.Whole enc Tryz.prog Tryz.f3.params.toList Rows.secondCrashSpec.vars false W args.toList ds gs before) (hL : laidMetH Tryz.prog Rows.secondCrashRow.laid W) :
    Calls Tryz.prog 3 args W fun e W' => ∃ v, e = .returned v ∧ Rows.secondCrashSpec.post enc Tryz.prog Tryz.f3 false true false false W args v W' := by
  have hW' := hW
  obtain ⟨p, q, hA0, hV, rfl, hfz, hnd⟩ := hW
  have hA : DataW.TrodAll enc Tryz.prog W 0 (fun _ => true) true Tryz.f3.params.toList args.toList ds p := hA0
  rw [Tryz.params3] at hA hval
  obtain ⟨v0, vs0, d0, ds0, p0, q0, hargs, rfl, rfl, h0, r0⟩ := trodAll_cons hA
  obtain ⟨v1, vs1, d1, ds1, p1, q1, rfl, rfl, rfl, h1, r1⟩ := trodAll_cons r0
  obtain ⟨v2, vs2, d2, ds2, p2, q2, rfl, rfl, rfl, h2, r2⟩ := trodAll_cons r1
  obtain ⟨rfl, rfl, rfl⟩ := trodAll_nil r2
  obtain rfl : args = #[v0, v1, v2] := by cases args; simp_all
  obtain ⟨rfl, rfl⟩ := trodVars_none hV
  obtain ⟨l, hl, hlen⟩ := open_feds (hval 0 _ v0 rfl rfl) h0
  obtain ⟨keep, hk, hklen⟩ := open_keep (hval 1 _ v1 rfl rfl) h1
  obtain ⟨n, rfl, rfl, rfl, hwn⟩ := open_int Tryz.underlying3 (hval 2 _ v2 rfl rfl) h2
  have hR := table hL
  have walk : Calls Tryz.prog 3 #[v0, v1, .int .i64 n] W (LiveIs W) := by
    unfold maxLen at hlen hklen
    by_cases hok : PlainP l ∧ keep.length ≤ 100 ∧ 2 ≤ n ∧ n ≤ 36
    · obtain ⟨hp, h100, h2n, h36⟩ := hok
      obtain ⟨m, rfl⟩ := Int.eq_ofNat_of_zero_le (show 0 ≤ n by omega)
      exact crash_main v0 v1 m keep l rootsL W hR hl hk hp h100 (by omega) (by omega)
    · exact crash_live v0 v1 n keep l rootsL W hR hl hk (by omega) (by omega) hok
  refine walk.mono fun e W' ⟨he, hb⟩ => ?_
  subst he
  refine ⟨_, rfl, law_post hW' rfl rfl rfl ?_ hb⟩
  intro t ht
  rw [Tryz.params3] at ht
  simp at ht
  rcases ht with rfl | rfl | rfl
  · exact ⟨by kernel_rfl, by decide +kernel⟩
  · exact ⟨by kernel_rfl, by decide +kernel⟩
  · exact ⟨by kernel_rfl, by decide +kernel⟩

def crashArgs : Array Value := #[.slice none 0 0, .slice none 0 0, .int .i64 0]
theorem crash_laid (os : Os) : laidMet Tryz.prog Rows.secondCrashRow.laid ((laidWorld os).forCall (fun _ _ => 0) ⟨#[], crashArgs, []⟩).memory :=
  laidMet_of_run' 8 (by kernel_rfl) (by kernel_rfl)
theorem crash_reads (os : Os) {H : Type} (enc : TypeId × Value → H) : ∃ places, DataW.whole enc Tryz.prog ((laidWorld os).forCall (fun _ _ => 0) ⟨#[], crashArgs, []⟩).memory Tryz.f3.params.toList Rows.secondCrashSpec.vars false crashArgs.toList 8 = some ([.nil, .nil, .lit (.int .i64 0)], [], places) :=
  ⟨[], by kernel_rfl⟩

set_option maxRecDepth 100000 in
theorem crash_lifted (os : Os) (started : os.Started) (H : Type) (enc : TypeId × Value → H) (F : Stop.Interp) :
    ReturnsInHanded {} Tryz.checked os 3 .any ((OpenSpec.ofChange Rows.secondCrashSpec).preRow enc Tryz.prog Tryz.f3 Rows.secondCrashRow.domain false Rows.secondCrashRow.laid) (((OpenSpec.ofChange Rows.secondCrashSpec).at F).post enc Tryz.prog Tryz.f3 false true false false) := by
  obtain ⟨places, hx⟩ := crash_reads os enc
  refine returnsInHanded_of_row (C := Tryz.checked) (s := OpenSpec.ofChange Rows.secondCrashSpec) own started (by kernel_rfl) Tryz.func3
    (witness_row_at (enc := enc) (C := Tryz.checked) false (laidWorld os) crashArgs rfl (by kernel_rfl) (by kernel_rfl) (by kernel_rfl)
      (OpenSpec.preRow_of_cond 8 hx (by kernel_rfl) (fun k hk => by cases hk) (by kernel_rfl) (crash_laid os))) ?_
  intro W base args ds gs before hval hW _ _ _ hL _ _
  exact contract_crash H enc W base args ds gs before hval hW hL

set_option maxRecDepth 100000 in
theorem crash_said : Rows.SecondCrashSaid :=
  OpenClaim.holds_of_cond 3 Tryz.f3 rfl rfl rfl rfl rfl rfl rfl ⟨rfl, rfl, rfl, rfl, rfl⟩ rfl rfl rfl rfl rfl (by kernel_rfl) Tryz.func3 (by kernel_rfl)
    (of_decide_eq_true (by kernel_rfl)) (by unfold Func.isWrapper; first | (rw [if_pos (by decide +kernel)]; kernel_rfl) | (rw [if_neg (by decide +kernel)]; exact ⟨rfl, rfl⟩))
    (fun os started H enc _ F => by rw [OpenClaim.pre_eq_preRow]; exact crash_lifted os started H enc F)

set_option maxRecDepth 100000 in
theorem crash_plain (f : FuncId) (fn : Func) (hf : Tryz.pinned.checked.prog.funcNamed "permafrost/permafrostlaw14.SecondCrash" = some f) (hfn : Tryz.pinned.checked.prog.funcs[f]? = some fn) :
    false = Tryz.pinned.checked.prog.looks [] ∧ ∀ (j : Nat) t, fn.params[j]? = some t → Tryz.pinned.checked.prog.wantsStandIn t = false := by
  obtain rfl : f = 3 := Option.some.inj ((show Tryz.prog.funcNamed "permafrost/permafrostlaw14.SecondCrash" = some 3 by kernel_rfl).symm.trans hf) |>.symm
  obtain rfl : fn = Tryz.f3 := (Option.some.inj (Tryz.func3.symm.trans hfn)).symm
  refine ⟨by kernel_rfl, fun j t ht => ?_⟩
  rw [Tryz.params3] at ht
  have hm := Array.mem_of_getElem? ht
  simp at hm
  rcases hm with rfl | rfl | rfl
  · exact (show Tryz.prog.wantsStandIn 22 = false by kernel_rfl)
  · exact (show Tryz.prog.wantsStandIn 23 = false by kernel_rfl)
  · exact (show Tryz.prog.wantsStandIn 3 = false by kernel_rfl)

/-- the card -/
theorem crash_card : Rows.SecondCrashCardSaid :=
  Claim7.holds_tied_plain_at .later [] _ _ _ _ crash_said (fun _ h => by cases h) (by kernel_rfl) (fun _ h => by cases h) secondCrash_row_tie rfl ⟨rfl, rfl⟩ (by kernel_rfl) rfl crash_plain (by kernel_rfl)
#print axioms crash_card
end Go.Proofs.YtbhokalnkfdekaaGreatDoor
