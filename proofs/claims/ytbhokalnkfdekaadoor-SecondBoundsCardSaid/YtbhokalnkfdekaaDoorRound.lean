/- A region that draws its order, in the round of a range over a function: walked as outside of one. -/
import Derived.Test.YtbhokalnkfdekaaDoorBase
import Derived.RangeFuncNested
import Derived.RangeFuncCalls
import Derived.OrdersIn
import Derived.Deep.RegionHeld3
namespace Go.Proofs.YtbhokalnkfdekaaDoor
open Go.RowKit

theorem wpIn_round {l n : Nat} {o : Oper} {a : Act} {w : World} {next : Act → World → Prop} {Q : Exit → Act → World → Prop} (hnd : ∀ c, o.op ≠ .defer c) (h : Oper.wp Tryd.prog o a w next Q) :
    Oper.wpIn (Fence.wide.inRound l) n Tryd.prog o a w next Q := by
  refine ⟨fun _ _ => trivial, ?_⟩
  rw [Oper.semAt_eq _ _ _ hnd]
  unfold Oper.wp at h
  cases hr : (execOp a.eval o).run Tryd.prog w with
  | halt x w' => rw [hr] at h; cases x <;> exact h
  | ok x w' =>
    rw [hr] at h
    cases x with
    | value v => exact h
    | skip => exact h
    | defer d => exact h
    | enter f args =>
      refine ⟨fun hd => by simp [Fence.inRound, Fence.wide] at hd, ?_⟩
      exact CallsIn.inRound l (callsIn_wide.2 h)
    | row r args =>
      refine ⟨fun hd => by simp [Fence.inRound, Fence.wide] at hd, fun c cs _ => ?_⟩
      obtain ⟨v, w2, hv, hs⟩ := h c cs
      exact ⟨v, w2, hv, stepsIn_wide.2 hs⟩
    | round => exact h.elim
    | _ => exact h.elim

theorem wpAnyIn_round {l n : Nat} {md : Region.Mode} {ops : Array Oper} {Q : Exit → Act → World → Prop} (hnd : ∀ (i : Nat) (o : Oper), ops[i]? = some o → ∀ c, o.op ≠ .defer c) (hlo : ∀ a w, ¬ Q .outgrown a w) :
    ∀ (fuel : Nat) (listed : Array Bool) (a : Act) (w : World), wpAny Tryd.prog md ops Q fuel listed a w → wpAnyIn (Fence.wide.inRound l) n Tryd.prog md ops Q fuel listed a w
  | 0, _, _, _, h => h
  | fuel + 1, listed, a, w, h => by
    refine ⟨h.1, fun i hi => ?_⟩
    have h2 := h.2 i hi
    unfold wpOp at h2
    unfold wpOpIn
    cases ho : ops[i]? with
    | none => rw [ho] at h2; exact wpAnyIn_round hnd hlo fuel _ _ _ h2
    | some o =>
      rw [ho] at h2
      simp only at h2 ⊢
      split
      · rename_i hw
        rw [if_pos hw] at h2
        rcases h2 with h2 | ⟨_, a', w', h3⟩
        · exact wpIn_round (hnd i o ho) (Oper.wp_mono (fun a w h' => wpAnyIn_round hnd hlo fuel _ _ _ h') h2)
        · exact absurd h3 (hlo _ _)
      · rename_i hw
        rw [if_neg hw] at h2
        exact ⟨fun _ _ => trivial, wpAnyIn_round hnd hlo fuel _ _ _ h2⟩

def noDefer (ops : Array Oper) : Bool := ops.all fun o => match o.op with | .defer _ => false | _ => true
theorem noDefer_at {ops : Array Oper} (h : noDefer ops = true) (i : Nat) (o : Oper) (ho : ops[i]? = some o) (c : _) : o.op ≠ .defer c := by
  intro e
  have h1 := Array.all_eq_true_iff_forall_mem.1 h o (Array.mem_of_getElem? ho)
  rw [e] at h1
  cases h1

/-- Q where the region runs to its end -/
def OnlyN (Q : Exit → Act → World → Prop) : Exit → Act → World → Prop
  | .normal, a, w => Q .normal a w
  | _, _, _ => False
theorem OnlyN.imp {Q : Exit → Act → World → Prop} : ∀ (e : Exit) (a : Act) (w : World), OnlyN Q e a w → Q e a w := fun e a w h => by
  cases e <;> first | exact h | exact (h : False).elim

/-- the region in a round -/
theorem wpIn_region_round {l n id : Nat} {ops : Array Oper} {Q : Exit → Act → World → Prop} {S : World → Prop} {a : Act} {w : World} (hm : Tryd.prog.follows .mixedOrders = true) (hnd : noDefer ops = true)
    (hS : S w.drew) (h : S w.drew → wpAnyH Tryd.prog .any ops (OnlyN Q) S ops.size (Array.replicate ops.size false) a w.drew) : (Code.region id ops true).wpIn (Fence.wide.inRound l) n Tryd.prog Q a w :=
  wpIn_mono (wpIn_region_any hm (wpAnyIn_round (noDefer_at hnd) (fun _ _ h => h) _ _ _ _ (wpAny_of_held _ _ _ _ (h hS)))) OnlyN.imp
end Go.Proofs.YtbhokalnkfdekaaDoor
