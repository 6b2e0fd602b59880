/- A region that draws its order, inside a round of a range over a function. No program here. -/
import Derived.Test.YtapjajclmbpjmaaGreatDoorHead
import Derived.OrdersIn
import Derived.TacticsIn
import Derived.RangeFuncCalls
namespace Go.Proofs.YtapjajclmbpjmaaGreatDoor.Mem
open Go

section
variable {P : Program} {ops : Array Oper} {Q : Exit → Act → World → Prop} {md : Region.Mode} {S : World → Prop}
/-- The same, and room enough. -/
def NoOut (Q : Exit → Act → World → Prop) : Exit → Act → World → Prop := fun e a w => e ≠ .outgrown ∧ Q e a w
def noDefer (ops : Array Oper) : Bool := ops.all fun o => match o.op with | .defer _ => false | _ => true
theorem noDefer_at (hd : noDefer ops = true) {i : Nat} {o : Oper} (ho : ops[i]? = some o) : ∀ c, o.op ≠ .defer c := by
  intro c e
  have h := Array.all_eq_true'.1 hd o (Array.mem_of_getElem? ho)
  rw [e] at h
  cases h
theorem opIn_of_op {n l i : Nat} {K K' : Act → World → Prop} {a : Act} {w : World} (hd : noDefer ops = true) (hk : ∀ a w, K a w → K' a w) (h : wpOp P ops (NoOut Q) i K a w) : wpOpIn (Fence.wide.inRound l) n P ops Q i K' a w := by
  unfold wpOp at h
  unfold wpOpIn
  cases ho : ops[i]? with
  | none => rw [ho] at h; exact hk _ _ h
  | some o =>
    rw [ho] at h
    simp only at h ⊢
    split
    · rename_i hw
      rw [if_pos hw] at h
      rcases h with h | ⟨_, a', w', h, _⟩
      · refine ⟨fun _ _ => trivial, ?_⟩
        rw [Oper.semAt_eq _ _ _ (noDefer_at hd ho)]
        unfold Oper.wp at h
        generalize (execOp a.eval o).run P w = r at *
        cases r with
        | ok nx w' =>
          cases nx with
          | value v => exact hk _ _ h
          | skip => exact hk _ _ h
          | defer d => exact hk _ _ h
          | enter f args =>
            refine ⟨fun h => by simp [Fence.wide] at h, ?_⟩
            refine CallsIn.inRound l (callsIn_wide.2 (Calls.mono h (fun e w2 h2 => ?_)))
            cases e with
            | returned v => exact hk _ _ h2
            | panicked chain => exact h2.2
            | outgrown => obtain ⟨a', w', h3, _⟩ := h2; exact absurd rfl h3
          | row row args =>
            refine ⟨fun h => by simp [Fence.wide] at h, ?_⟩
            intro c cs _
            obtain ⟨v, w2, h2, h3⟩ := h c cs
            exact ⟨v, w2, hk _ _ h2, stepsIn_wide.2 h3⟩
          | _ => exact h.elim
        | halt s w' =>
          cases s with
          | panic v => exact h.2
          | _ => exact h.elim
      · exact absurd rfl h
    · rename_i hw
      rw [if_neg hw] at h
      exact ⟨fun _ _ => trivial, hk _ _ h⟩
theorem anyIn_of_any {n l : Nat} (hd : noDefer ops = true) : ∀ (fuel : Nat) (listed : Array Bool) (a : Act) (w : World), wpAny P md ops (NoOut Q) fuel listed a w → wpAnyIn (Fence.wide.inRound l) n P md ops Q fuel listed a w
  | 0, _, _, _, h => ⟨h.1, h.2.2⟩
  | fuel + 1, _, _, _, h => ⟨fun h0 => (h.1 h0).2, fun i hi => opIn_of_op hd (fun _ _ hk => anyIn_of_any hd fuel _ _ _ hk) (h.2 i hi)⟩
theorem wpIn_region_held_drew {n l id : Nat} {a : Act} {w : World} (hm : P.follows .mixedOrders = true) (hd : noDefer ops = true) (hS : S w.drew)
    (h : S w.drew → wpAnyH P .any ops (NoOut Q) S ops.size (Array.replicate ops.size false) a w.drew) : (Code.region id ops true).wpIn (Fence.wide.inRound l) n P Q a w :=
  wpIn_region_any hm (anyIn_of_any hd _ _ _ _ (wpAny_of_held _ _ _ _ (h hS)))
end
end Go.Proofs.YtapjajclmbpjmaaGreatDoor.Mem
