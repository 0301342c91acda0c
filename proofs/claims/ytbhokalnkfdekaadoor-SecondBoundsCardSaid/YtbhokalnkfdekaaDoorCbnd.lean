/- SecondBounds: a second cache writes to its region alone; for every input that the row lets in (the digests' table starts as the program's text lays it). -/
import Derived.Test.YtbhokalnkfdekaaDoorRow
import Derived.Test.YtbhokalnkfdekaaDoorLbnd
namespace Go.Proofs.YtbhokalnkfdekaaDoor
open Go.RowKit
open Go.ChangeShapes Go.WideShapes Go.ChangeAt Go.Deep

theorem wf_i64 {n : Int} (h : (Lit.int .i64 n).wf = true) : -9223372036854775808 ≤ n ∧ n ≤ 9223372036854775807 := by
  simpa [Lit.wf, IntKind.min, IntKind.max, IntKind.signed, IntKind.bits] using h

set_option maxRecDepth 100000 in
theorem contract_bounds (H : Type) (enc : TypeId × Value → H) (W : World) (base : Nat) (args : Array Value) (ds gs : List (DataW H)) (before : List MemPlace)
    (hval : ∀ (j : Nat) t v, Tryd.f4.params[j]? = some t → args[j]? = some v → Value.okWide Tryd.prog W .any base t v)
    (hW : DataW.Whole enc Tryd.prog Tryd.f4.params.toList Rows.secondBoundsSpec.vars false W args.toList ds gs before) (hL : laidMetH Tryd.prog Rows.secondBoundsRow.laid W) :
    Calls Tryd.prog 4 args W fun e W' => ∃ v, e = .returned v ∧ Rows.secondBoundsSpec.post enc Tryd.prog Tryd.f4 false true false false W args v W' := by
  have hW' := hW
  obtain ⟨p, q, hA0, hV, rfl, hfz, hnd⟩ := hW
  have hA : DataW.TrodAll enc Tryd.prog W 0 (fun _ => true) true Tryd.f4.params.toList args.toList ds p := hA0
  rw [Tryd.params4] at hA hval
  obtain ⟨v0, vs0, d0, ds0, p0, q0, hargs, rfl, rfl, h0, r0⟩ := trodAll_cons hA
  obtain ⟨v1, vs1, d1, ds1, p1, q1, rfl, rfl, rfl, h1, r1⟩ := trodAll_cons r0
  obtain ⟨v2, vs2, d2, ds2, p2, q2, rfl, rfl, rfl, h2, r2⟩ := trodAll_cons r1
  obtain ⟨rfl, rfl, rfl⟩ := trodAll_nil r2
  obtain rfl : args = #[v0, v1, v2] := by cases args; simp_all
  obtain ⟨rfl, rfl⟩ := trodVars_none hV
  obtain ⟨l, hl, hlen⟩ := open_feds (hval 0 _ v0 rfl rfl) h0
  obtain ⟨n1, rfl, rfl, rfl, hwn1⟩ := open_int Tryd.underlying3 (hval 1 _ v1 rfl rfl) h1
  obtain ⟨n2, rfl, rfl, rfl, hwn2⟩ := open_int Tryd.underlying3 (hval 2 _ v2 rfl rfl) h2
  have hR := table hL
  have walk : Calls Tryd.prog 4 #[v0, .int .i64 n1, .int .i64 n2] W (LiveIs W) := by
    unfold maxLen at hlen
    by_cases hok : l.length ≤ 30 ∧ 0 ≤ n1 ∧ 2 ≤ n2 ∧ n1 ≤ 40 - n2
    · obtain ⟨h30, h0f, h2n, hfn⟩ := hok
      obtain ⟨f, rfl⟩ := Int.eq_ofNat_of_zero_le h0f
      obtain ⟨m, rfl⟩ := Int.eq_ofNat_of_zero_le (show 0 ≤ n2 by omega)
      exact bounds_main v0 f m l rootsL W hR hl h30 (by omega) (by omega)
    · exact bounds_live v0 n1 n2 l rootsL W hR hl (by omega) (wf_i64 hwn1) (wf_i64 hwn2) hok
  refine walk.mono fun e W' ⟨he, hb⟩ => ?_
  subst he
  refine ⟨_, rfl, law_post hW' rfl rfl rfl ?_ hb⟩
  intro t ht
  rw [Tryd.params4] at ht
  simp at ht
  rcases ht with rfl | rfl
  · exact ⟨by kernel_rfl, by decide +kernel⟩
  · exact ⟨by kernel_rfl, by decide +kernel⟩

def boundsArgs : Array Value := #[.slice none 0 0, .int .i64 0, .int .i64 0]
theorem bounds_laid (os : Os) : laidMet Tryd.prog Rows.secondBoundsRow.laid ((laidWorld os).forCall (fun _ _ => 0) ⟨#[], boundsArgs, []⟩).memory :=
  laidMet_of_run' 8 (by kernel_rfl) (by kernel_rfl)
theorem bounds_reads (os : Os) {H : Type} (enc : TypeId × Value → H) : ∃ places, DataW.whole enc Tryd.prog ((laidWorld os).forCall (fun _ _ => 0) ⟨#[], boundsArgs, []⟩).memory Tryd.f4.params.toList Rows.secondBoundsSpec.vars false boundsArgs.toList 8 = some ([.nil, .lit (.int .i64 0), .lit (.int .i64 0)], [], places) :=
  ⟨[], by kernel_rfl⟩

set_option maxRecDepth 100000 in
theorem bounds_lifted (os : Os) (started : os.Started) (H : Type) (enc : TypeId × Value → H) (F : Stop.Interp) :
    ReturnsInHanded {} Tryd.checked os 4 .any ((OpenSpec.ofChange Rows.secondBoundsSpec).preRow enc Tryd.prog Tryd.f4 Rows.secondBoundsRow.domain false Rows.secondBoundsRow.laid) (((OpenSpec.ofChange Rows.secondBoundsSpec).at F).post enc Tryd.prog Tryd.f4 false true false false) := by
  obtain ⟨places, hx⟩ := bounds_reads os enc
  refine returnsInHanded_of_row (C := Tryd.checked) (s := OpenSpec.ofChange Rows.secondBoundsSpec) own started (by kernel_rfl) Tryd.func4
    (witness_row_at (enc := enc) (C := Tryd.checked) false (laidWorld os) boundsArgs rfl (by kernel_rfl) (by kernel_rfl) (by kernel_rfl)
      (OpenSpec.preRow_of_cond 8 hx (by kernel_rfl) (fun k hk => by cases hk) (by kernel_rfl) (bounds_laid os))) ?_
  intro W base args ds gs before hval hW _ _ _ hL _ _
  exact contract_bounds H enc W base args ds gs before hval hW hL

set_option maxRecDepth 100000 in
theorem bounds_said : Rows.SecondBoundsSaid :=
  OpenClaim.holds_of_cond 4 Tryd.f4 rfl rfl rfl rfl rfl rfl rfl ⟨rfl, rfl, rfl, rfl, rfl⟩ rfl rfl rfl rfl rfl (by kernel_rfl) Tryd.func4 (by kernel_rfl)
    (of_decide_eq_true (by kernel_rfl)) (by unfold Func.isWrapper; first | (rw [if_pos (by decide +kernel)]; kernel_rfl) | (rw [if_neg (by decide +kernel)]; exact ⟨rfl, rfl⟩))
    (fun os started H enc _ F => by rw [OpenClaim.pre_eq_preRow]; exact bounds_lifted os started H enc F)

set_option maxRecDepth 100000 in
theorem bounds_plain (f : FuncId) (fn : Func) (hf : Tryd.pinned.checked.prog.funcNamed "permafrost/permafrostlaw14.SecondBounds" = some f) (hfn : Tryd.pinned.checked.prog.funcs[f]? = some fn) :
    false = Tryd.pinned.checked.prog.looks [] ∧ ∀ (j : Nat) t, fn.params[j]? = some t → Tryd.pinned.checked.prog.wantsStandIn t = false := by
  obtain rfl : f = 4 := Option.some.inj ((show Tryd.prog.funcNamed "permafrost/permafrostlaw14.SecondBounds" = some 4 by kernel_rfl).symm.trans hf) |>.symm
  obtain rfl : fn = Tryd.f4 := (Option.some.inj (Tryd.func4.symm.trans hfn)).symm
  refine ⟨by kernel_rfl, fun j t ht => ?_⟩
  rw [Tryd.params4] at ht
  have hm := Array.mem_of_getElem? ht
  simp at hm
  rcases hm with rfl | rfl
  · exact (show Tryd.prog.wantsStandIn 22 = false by kernel_rfl)
  · exact (show Tryd.prog.wantsStandIn 3 = false by kernel_rfl)

/-- the card -/
theorem bounds_card : Rows.SecondBoundsCardSaid :=
  Claim7.holds_tied_plain_at .later [] _ _ _ _ bounds_said (fun _ h => by cases h) (by kernel_rfl) (fun _ h => by cases h) secondBounds_row_tie rfl ⟨rfl, rfl⟩ (by kernel_rfl) rfl bounds_plain (by kernel_rfl)
#print axioms bounds_card
end Go.Proofs.YtbhokalnkfdekaaDoor
