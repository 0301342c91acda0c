/- SecondLately: what was fed lately to a second cache is found, as many as there are places, and when it is opened again behind a flush; for every input that the row lets in (the digests' table starts as the program's text lays it). -/
import Derived.Test.YtbhokalnkfdekaaDoorRow
import Derived.Test.YtbhokalnkfdekaaDoorLlat
namespace Go.Proofs.YtbhokalnkfdekaaDoor
open Go.RowKit
open Go.ChangeShapes Go.WideShapes Go.ChangeAt Go.Deep

set_option maxRecDepth 100000 in
theorem contract_lately (H : Type) (enc : TypeId × Value → H) (W : World) (base : Nat) (args : Array Value) (ds gs : List (DataW H)) (before : List MemPlace)
    (hval : ∀ (j : Nat) t v, Tryd.f3.params[j]? = some t → args[j]? = some v → Value.okWide Tryd.prog W .any base t v)
    (hW : DataW.Whole enc Tryd.prog Tryd.f3.params.toList Rows.secondLatelySpec.vars false W args.toList ds gs before) (hL : laidMetH Tryd.prog Rows.secondLatelyRow.laid W) :
    Calls Tryd.prog 3 args W fun e W' => ∃ v, e = .returned v ∧ Rows.secondLatelySpec.post enc Tryd.prog Tryd.f3 false true false false W args v W' := by
  have hW' := hW
  obtain ⟨p, q, hA0, hV, rfl, hfz, hnd⟩ := hW
  have hA : DataW.TrodAll enc Tryd.prog W 0 (fun _ => true) true Tryd.f3.params.toList args.toList ds p := hA0
  rw [Tryd.params3] at hA hval
  obtain ⟨v0, vs0, d0, ds0, p0, q0, hargs, rfl, rfl, h0, r0⟩ := trodAll_cons hA
  obtain ⟨v1, vs1, d1, ds1, p1, q1, rfl, rfl, rfl, h1, r1⟩ := trodAll_cons r0
  obtain ⟨rfl, rfl, rfl⟩ := trodAll_nil r1
  obtain rfl : args = #[v0, v1] := by cases args; simp_all
  obtain ⟨rfl, rfl⟩ := trodVars_none hV
  obtain ⟨l, hl, hlen⟩ := open_feds (hval 0 _ v0 rfl rfl) h0
  obtain ⟨n1, rfl, rfl, rfl, hwn1⟩ := open_int Tryd.underlying3 (hval 1 _ v1 rfl rfl) h1
  have hR := table hL
  have walk : Calls Tryd.prog 3 #[v0, .int .i64 n1] W (LiveIs W) := by
    unfold maxLen at hlen
    by_cases hok : PlainP l ∧ 2 ≤ n1 ∧ n1 ≤ 36
    · obtain ⟨hp, h2n, h36⟩ := hok
      obtain ⟨m, rfl⟩ := Int.eq_ofNat_of_zero_le (show 0 ≤ n1 by omega)
      exact lately_main v0 m l rootsL W hR hl hp (by omega) (by omega)
    · exact lately_live v0 n1 l rootsL W hR hl (by omega) hok
  refine walk.mono fun e W' ⟨he, hb⟩ => ?_
  subst he
  refine ⟨_, rfl, law_post hW' rfl rfl rfl ?_ hb⟩
  intro t ht
  rw [Tryd.params3] at ht
  simp at ht
  rcases ht with rfl | rfl
  · exact ⟨by kernel_rfl, by decide +kernel⟩
  · exact ⟨by kernel_rfl, by decide +kernel⟩

def latelyArgs : Array Value := #[.slice none 0 0, .int .i64 0]
theorem lately_laid (os : Os) : laidMet Tryd.prog Rows.secondLatelyRow.laid ((laidWorld os).forCall (fun _ _ => 0) ⟨#[], latelyArgs, []⟩).memory :=
  laidMet_of_run' 8 (by kernel_rfl) (by kernel_rfl)
theorem lately_reads (os : Os) {H : Type} (enc : TypeId × Value → H) : ∃ places, DataW.whole enc Tryd.prog ((laidWorld os).forCall (fun _ _ => 0) ⟨#[], latelyArgs, []⟩).memory Tryd.f3.params.toList Rows.secondLatelySpec.vars false latelyArgs.toList 8 = some ([.nil, .lit (.int .i64 0)], [], places) :=
  ⟨[], by kernel_rfl⟩

set_option maxRecDepth 100000 in
theorem lately_lifted (os : Os) (started : os.Started) (H : Type) (enc : TypeId × Value → H) (F : Stop.Interp) :
    ReturnsInHanded {} Tryd.checked os 3 .any ((OpenSpec.ofChange Rows.secondLatelySpec).preRow enc Tryd.prog Tryd.f3 Rows.secondLatelyRow.domain false Rows.secondLatelyRow.laid) (((OpenSpec.ofChange Rows.secondLatelySpec).at F).post enc Tryd.prog Tryd.f3 false true false false) := by
  obtain ⟨places, hx⟩ := lately_reads os enc
  refine returnsInHanded_of_row (C := Tryd.checked) (s := OpenSpec.ofChange Rows.secondLatelySpec) own started (by kernel_rfl) Tryd.func3
    (witness_row_at (enc := enc) (C := Tryd.checked) false (laidWorld os) latelyArgs rfl (by kernel_rfl) (by kernel_rfl) (by kernel_rfl)
      (OpenSpec.preRow_of_cond 8 hx (by kernel_rfl) (fun k hk => by cases hk) (by kernel_rfl) (lately_laid os))) ?_
  intro W base args ds gs before hval hW _ _ _ hL _ _
  exact contract_lately H enc W base args ds gs before hval hW hL

set_option maxRecDepth 100000 in
theorem lately_said : Rows.SecondLatelySaid :=
  OpenClaim.holds_of_cond 3 Tryd.f3 rfl rfl rfl rfl rfl rfl rfl ⟨rfl, rfl, rfl, rfl, rfl⟩ rfl rfl rfl rfl rfl (by kernel_rfl) Tryd.func3 (by kernel_rfl)
    (of_decide_eq_true (by kernel_rfl)) (by unfold Func.isWrapper; first | (rw [if_pos (by decide +kernel)]; kernel_rfl) | (rw [if_neg (by decide +kernel)]; exact ⟨rfl, rfl⟩))
    (fun os started H enc _ F => by rw [OpenClaim.pre_eq_preRow]; exact lately_lifted os started H enc F)

set_option maxRecDepth 100000 in
theorem lately_plain (f : FuncId) (fn : Func) (hf : Tryd.pinned.checked.prog.funcNamed "permafrost/permafrostlaw14.SecondLately" = some f) (hfn : Tryd.pinned.checked.prog.funcs[f]? = some fn) :
    false = Tryd.pinned.checked.prog.looks [] ∧ ∀ (j : Nat) t, fn.params[j]? = some t → Tryd.pinned.checked.prog.wantsStandIn t = false := by
  obtain rfl : f = 3 := Option.some.inj ((show Tryd.prog.funcNamed "permafrost/permafrostlaw14.SecondLately" = some 3 by kernel_rfl).symm.trans hf) |>.symm
  obtain rfl : fn = Tryd.f3 := (Option.some.inj (Tryd.func3.symm.trans hfn)).symm
  refine ⟨by kernel_rfl, fun j t ht => ?_⟩
  rw [Tryd.params3] at ht
  have hm := Array.mem_of_getElem? ht
  simp at hm
  rcases hm with rfl | rfl
  · exact (show Tryd.prog.wantsStandIn 22 = false by kernel_rfl)
  · exact (show Tryd.prog.wantsStandIn 3 = false by kernel_rfl)

/-- the card -/
theorem lately_card : Rows.SecondLatelyCardSaid :=
  Claim7.holds_tied_plain_at .later [] _ _ _ _ lately_said (fun _ h => by cases h) (by kernel_rfl) (fun _ h => by cases h) secondLately_row_tie rfl ⟨rfl, rfl⟩ (by kernel_rfl) rfl lately_plain (by kernel_rfl)
#print axioms lately_card
end Go.Proofs.YtbhokalnkfdekaaDoor
