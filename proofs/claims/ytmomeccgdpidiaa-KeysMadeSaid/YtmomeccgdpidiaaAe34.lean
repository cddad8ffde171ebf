import Derived.Test.YtmomeccgdpidiaaAe33
import Derived.RowKit3
/-! From the evaluator to a call. -/
namespace Go.AE
open Go.RowKit
theorem SR.none (w : World) : SR w [] [] ⟨fun _ => 0, fun _ _ => True⟩ ⟨fun _ => 0, fun _ _ => True⟩ := by
  refine ⟨fun d v o h => ?_, fun r o h => ?_, fun d v r h => ?_, fun d e v o v' o' h => ?_, fun r s h => ?_, fun d v o r h => ?_, fun _ _ _ => trivial, fun _ _ _ _ _ => trivial, fun _ _ _ _ _ => trivial⟩
  all_goals simp [AE.lo, lget] at h
theorem Stp.grown {w w' : World} {l' : Ls} {g' : Gs} {bl bg bl' bg' : Bl} {wr : List Nat} (h : Stp w [] [] bl bg w' l' g' bl' bg' wr) : Grown w w' := by
  refine ⟨⟨h.os, h.output, fun i hi => ?_⟩, h.fz, h.size⟩
  have := h.same i hi (fun ⟨d, v, o, hd, _⟩ => by simp [AE.lo, lget] at hd) (fun ⟨r, hr, _⟩ => by simp at hr)
  rw [this]
  cases hc : w.heap[i]? with
  | none => simp
  | some x => cases x <;> simp
/-- What the evaluator says of a law is so of its call. -/
theorem law_of_pure {P : Program} {eqs : TypeId → Option (List SK)} {orc : Nat → Option Orc} {rounds : Nat} (hq : EqsOK P eqs) (hO : OrcOK P orc) (hOE : ∀ f h, orc f = some h → Enters P f) (hN : ∀ (f : Nat) (fn : Func), P.funcs[f]? = some fn → fn.name ≠ "runtime.NumGoroutine")
    (hm : P.follows .mixedOrders = true) {n f : Nat} {args : List AV} {g : Gs} {wr : List Nat} (h : aCall P eqs orc rounds n f args [] = some (.bool true, g, wr)) {vals : Array Value} {w : World}
    (ha : ArgsR w (mkM w [] [] ⟨fun _ => 0, fun _ _ => True⟩ ⟨fun _ => 0, fun _ _ => True⟩) args vals) : Calls P f vals w fun e w' => e = .returned (.bool true) ∧ Grown w w' := by
  have hs := (aCall_sound (rounds := rounds) hq hO hOE hN hm (fun call o e => Loc.aoper call o e) n).1 f args [] _ _ _ h w _ _ vals (SR.none w) ha
  refine hs.2.mono fun e w' ⟨u, bl', bg', he, hst, hv⟩ => ⟨?_, hst.grown⟩
  rw [he]
  cases hv
  rfl
theorem EqsOK.none (P : Program) : EqsOK P (fun _ => none) := by
  unfold EqsOK
  intros
  simp_all
theorem OrcOK.none (P : Program) : OrcOK P (fun _ => none) := fun _ _ h => by simp at h
end Go.AE
