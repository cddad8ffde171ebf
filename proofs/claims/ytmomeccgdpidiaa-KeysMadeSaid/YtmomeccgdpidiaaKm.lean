/-
  KeysMade: whatever the two integers, the law of the keys' stamps and numbers answers true, and its arguments read as they did.
  Conditions: none; the statement as it was given.
-/
import Derived.Test.YtmomeccgdpidiaaRows
import Derived.WalkKit
import Derived.Test.YtmomeccgdpidiaaAe34
import Derived.Test.YtmomeccgdpidiaaKa
import Derived.ProofKit
import Derived.OpenShut
namespace Go.Proofs.Ytmomeccgdpidiaa.keysMade
open Go.ChangeShapes Go.WideShapes Go.ChangeAt Go.RowKit
set_option linter.unusedVariables false      -- a walk need not use every 'w<i>' (that an integer argument fits its kind)

theorem own : ownKnob Try.prog.godebug = none := by kernel_rfl

theorem names : ∀ (f : Nat) (fn : Func), Try.prog.funcs[f]? = some fn → fn.name ≠ "runtime.NumGoroutine" := by
  have h : Try.prog.funcs.toList.all (fun fn => decide (fn.name ≠ "runtime.NumGoroutine")) = true := by kernel_rfl
  intro f fn hf
  have := List.all_eq_true.1 h fn (by simpa using Array.mem_of_getElem? hf)
  simpa using this
set_option maxRecDepth 100000 in
theorem awake : AE.aCall Try.prog (fun _ => none) (fun _ => none) 1000000 50 28 [] [] = some (.bool true, [], []) := by kernel_rfl
theorem walk (a0 : Int) (a1 : Int) (w0 : (Lit.int .i64 a0).wf = true) (w1 : (Lit.int .i64 a1).wf = true) (w : World) :
    Calls Try.prog 4 #[.int .i64 a0, .int .i64 a1] w fun e w' => e = .returned (.bool true) ∧ Grown w w' := by
  have h := made_of (eqs := fun _ => none) (rounds := 1000000) (n := 49) a0 a1 (awake)
  refine AE.law_of_pure (AE.EqsOK.none _) (AE.OrcOK.none _) (fun _ _ h => by simp at h) names (by kernel_rfl) h ⟨rfl, fun i c u hc hu => ?_⟩
  match i with
  | 0 => simp at hc hu; subst hc hu; exact .int _ _
  | 1 => simp at hc hu; subst hc hu; exact .int _ _
  | n + 2 => simp at hc

/-! ### THE ROW's STEP: WRITTEN OUT: LEAVE IT -/
set_option maxRecDepth 100000 in
theorem lifted (os : Os) (started : os.Started) (H : Type) (enc : TypeId × Value → H) :
    ReturnsInHanded {} Try.checked os 4 .any (Rows.keysMadeSpec.pre6 enc Try.prog Try.f4 Rows.keysMadeRow.domain false) (Rows.keysMadeSpec.post enc Try.prog Try.f4 false true false false) := by
  refine returnsInHanded_of_change (C := Try.checked) own started (by kernel_rfl) Try.func4
    (ChangeSpec.witness6 (enc := enc) (C := Try.checked) false ⟨#[], #[.int .i64 0, .int .i64 0], []⟩ 8 (by kernel_rfl) (by kernel_rfl) (by kernel_rfl) (by kernel_rfl)) ?_
  intro W base args ds gs before hval0 hW hcnd _
  have hval : ∀ (j : Nat) t v, Try.f4.params[j]? = some t → args[j]? = some v → Value.okWide Try.prog W .any base t v := hval0
  have hW' := hW
  obtain ⟨p, q, hA0, hV, rfl, hfz, hnd⟩ := hW
  have hA : DataW.TrodAll enc Try.prog W 0 (fun _ => true) true Try.f4.params.toList args.toList ds p := hA0
  rw [Try.params4] at hA hval
  obtain ⟨v0, vs0, d0, ds0, p0, q0, hargs, rfl, rfl, h0, r0⟩ := trodAll_cons hA
  obtain ⟨v1, vs1, d1, ds1, p1, q1, rfl, rfl, rfl, h1, r1⟩ := trodAll_cons r0
  obtain ⟨rfl, rfl, rfl⟩ := trodAll_nil r1
  obtain rfl : args = #[v0, v1] := by cases args; simp_all
  obtain ⟨rfl, rfl⟩ := trodVars_none hV
  obtain ⟨a0, rfl, rfl, rfl, w0⟩ := open_int Try.underlying3 (hval 0 3 v0 rfl rfl) h0
  obtain ⟨a1, rfl, rfl, rfl, w1⟩ := open_int Try.underlying3 (hval 1 3 v1 rfl rfl) h1
  clear hA0 hval0
  simp only [List.append_nil] at hW'
  refine (walk a0 a1 w0 w1 W).mono fun e W' ⟨he, hg⟩ => ?_
  subst he
  exact ⟨_, rfl, post_of_same (pa := []) (pv := []) hW' (fun _ _ _ => (trodAll_cons_mk (shut_bool Try.underlying4 _) trodAll_mk0)) (fun sp _ => (trodAll_cons_mk (shut_int Try.underlying3 w0) (trodAll_cons_mk (shut_int Try.underlying3 w1) trodAll_mk0))) (fun _ _ => rfl) rfl
    (hg.frame _) hg.2.1 (ok_one (by kernel_rfl) rfl (okWide_bool_mk Try.underlying4 _))⟩

theorem over : Rows.keysMadeRow.holds Try.pinned (OpenSpec.ofChange Rows.keysMadeSpec) :=
  OpenClaim.holds_of_wide 4 Try.f4 rfl rfl rfl rfl rfl rfl rfl ⟨rfl, rfl, rfl, rfl, rfl⟩ rfl rfl rfl rfl rfl (by kernel_rfl) Try.func4 (by kernel_rfl)
    (of_decide_eq_true (by kernel_rfl)) (by unfold Func.isWrapper; first | (rw [if_pos (by decide +kernel)]; kernel_rfl) | (rw [if_neg (by decide +kernel)]; exact ⟨rfl, rfl⟩))
    (fun os started H enc _ => lifted os started H enc)

/-- ████ THE STATEMENT ████ -/
theorem proved : Rows.KeysMadeSaid :=
  over
#print axioms proved
end Go.Proofs.Ytmomeccgdpidiaa.keysMade
