import Derived.Test.YtmomeccgdpidiaaAe22
import Derived.LoopN
import Derived.Orders
/-! One operation of a frame. -/
namespace Go.AE
open Go.RowKit

/-- A frame. -/
structure CR (nt : Nat) (w0 : World) (g0 : Gs) (bl0 bg0 : Bl) (s : St) (a : Act) (w : World) (bl bg : Bl) : Prop where
  stp : Stp w0 [] g0 bl0 bg0 w s.l s.g bl bg s.w
  len : s.e.length ≤ nt
  size : a.tmps.size = nt
  val : ∀ (t : Nat) (v : Value), a.tmps[t]? = some v → VR w (mkM w s.l s.g bl bg) (lget .dead s.e t) v
  defers : a.defers = []
theorem lput_length {α : Type} (z : α) : ∀ (l : List α) (n : Nat) (v : α), (lput z l n v).length = max l.length (n + 1)
  | [], 0, _ => rfl
  | [], n + 1, v => by simp [lput, lput_length z [] n v]
  | x :: l, 0, v => by simp [lput]
  | x :: l, n + 1, v => by simp [lput, lput_length z l n v]
theorem lget_ge {α : Type} (z : α) : ∀ (l : List α) (n : Nat), l.length ≤ n → lget z l n = z
  | [], n, _ => lget_nil z n
  | _ :: _, 0, h => by simp at h
  | _ :: l, n + 1, h => lget_ge z l n (by simpa using h)
theorem addNew_mem : ∀ {m l : List Nat}, (∀ x ∈ l, x ∈ addNew l m) ∧ ∀ x ∈ m, x ∈ addNew l m
  | [], l => ⟨fun x hx => hx, by simp⟩
  | y :: m, l => by
    unfold addNew
    split
    · rename_i hy
      obtain ⟨h2, h3⟩ := addNew_mem (m := m) (l := l)
      refine ⟨h2, fun x hx => ?_⟩
      rcases List.mem_cons.1 hx with rfl | hx
      · obtain ⟨z, hz, he⟩ := List.any_eq_true.1 hy
        exact h2 _ (by simp at he; subst he; exact hz)
      · exact h3 x hx
    · obtain ⟨h2, h3⟩ := addNew_mem (m := m) (l := l ++ [y])
      refine ⟨fun x hx => h2 x (by simp [hx]), fun x hx => ?_⟩
      rcases List.mem_cons.1 hx with rfl | hx
      · exact h2 _ (by simp)
      · exact h3 x hx
section
variable {P : Program} {nt : Nat} {w0 : World} {g0 : Gs} {bl0 bg0 : Bl} {s : St} {a : Act} {w : World} {bl bg : Bl}
theorem CR.opd (h : CR nt w0 g0 bl0 bg0 s a w bl bg) (x : Operand) (c : AV) (hx : opd s.e x = some c) : VR w (mkM w s.l s.g bl bg) c (a.eval x) := by
  cases x with
  | tmp t =>
    simp only [AE.opd, Option.some.injEq] at hx
    subst hx
    simp only [Act.eval]
    by_cases ht : t < a.tmps.size
    · have := h.val t a.tmps[t] (by simp [ht])
      simpa [ht] using this
    · have hd : lget AV.dead s.e t = .dead := by
        have h1 := h.len
        have h2 := h.size
        have h3 : a.tmps.size ≤ t := Nat.le_of_not_lt ht
        exact lget_ge _ _ _ (Nat.le_trans h1 (h2 ▸ h3))
      rw [hd]
      exact .dead _
  | const v => exact ofValue_VR hx
  | func f =>
    simp only [AE.opd, Option.some.injEq] at hx
    subst hx
    exact .fn f [] [] #[] #[] rfl rfl (by simp) (by simp) (by simp)
  | global g => cases hx
/-- A result is put down. -/
theorem CR.put (h : CR nt w0 g0 bl0 bg0 s a w bl bg) {w' : World} {l' : Ls} {g' : Gs} {bl' bg' : Bl} {wg : List Nat} (hs : Stp w s.l s.g bl bg w' l' g' bl' bg' wg) {v : AV} {u : Value} (hv : VR w' (mkM w' l' g' bl' bg') v u) {dst : Option Nat} {e' : List AV} (he : putA nt s.e dst v = some e') :
    CR nt w0 g0 bl0 bg0 ⟨e', l', g', addNew s.w wg⟩ (a.put dst u) w' bl' bg' := by
  have hst := (h.stp.trans hs).more (b := addNew s.w wg) fun x hx => (List.mem_append.1 hx).elim (addNew_mem.1 x) (addNew_mem.2 x)
  cases dst with
  | none =>
    simp only [putA, Option.some.injEq] at he
    subst he
    exact ⟨hst, h.len, h.size, fun t x hx => (h.val t x hx).mono hs.le, h.defers⟩
  | some d =>
    simp only [putA] at he
    split at he
    · rename_i hd
      injection he with he
      subst he
      refine ⟨hst, by rw [lput_length]; have := h.len; omega, by simp [Act.put, h.size], fun t x hx => ?_, h.defers⟩
      simp only [Act.put] at hx
      by_cases htd : t = d
      · subst htd
        rw [lget_lput_same]
        have hts : t < a.tmps.size := by rw [h.size]; exact hd
        simp [hts] at hx
        rw [← hx]
        exact hv
      · rw [lget_lput_ne _ _ _ _ _ htd]
        rw [Array.getElem?_setIfInBounds_ne (Ne.symm htd)] at hx
        exact (h.val t x hx).mono hs.le
    · cases he
theorem CR.wanted (h : CR nt w0 g0 bl0 bg0 s a w bl bg) {ops : Array Oper} {o : Oper} {b : Bool} (hw : wantA ops s.e o = some b) : Region.wanted o (yielded ops a.tmps) = b := by
  unfold wantA at hw
  unfold Region.wanted
  split at hw
  · rename_i hg
    rw [hg]
    injection hw
  · rename_i j want hg
    rw [hg]
    simp only
    split at hw
    · rename_i hd
      injection hw with hw
      subst hw
      simp [yielded, hd]
    · rename_i d hd
      simp only [yielded, hd, Option.bind_some]
      by_cases hds : d < a.tmps.size
      · have hv := h.val d a.tmps[d] (by simp [hds])
        rw [Array.getElem?_eq_getElem hds]
        split at hw
        · rename_i c hc
          injection hw with hw
          rw [hc] at hv
          rw [hv.boolI]
          subst hw
          cases c <;> cases want <;> rfl
        · rename_i hc
          injection hw with hw
          rw [hc] at hv
          generalize a.tmps[d] = u at hv
          cases hv
          subst hw
          rfl
        · cases hw
      · have hdd : lget AV.dead s.e d = .dead := by
          have h1 := h.len
          have h2 := h.size
          have h3 : a.tmps.size ≤ d := Nat.le_of_not_lt hds
          exact lget_ge _ _ _ (Nat.le_trans h1 (h2 ▸ h3))
        rw [hdd] at hw
        cases hw
/-- The function has a body, and is entered. -/
def Enters (P : Program) (f : Nat) : Prop := ∃ fn, P.funcs[f]? = some fn ∧ fn.body.isSome = true ∧ fn.name ≠ "runtime.NumGoroutine"
theorem callFunc_enter {f : Nat} (h : Enters P f) (args : Array Value) (w : World) : (callFunc f args).run P w = .ok (.enter f args) w := by
  obtain ⟨fn, h1, h2, h3⟩ := h
  have h2' : fn.body.isNone = false := by cases hb : fn.body <;> simp_all
  simp only [callFunc, Sem.run_bind, run_program, Result.andThen_ok, h1, beq_iff_eq, h3, if_false, h2', Bool.false_eq_true, Sem.run_pure]
end

section
variable {P : Program} {eqs : TypeId → Option (List SK)} {orc : Nat → Option Orc} {call : Caller} {nt : Nat} {w0 : World} {g0 : Gs} {bl0 bg0 : Bl}
/-- What is asked of the functions that are called. -/
structure Env (P : Program) (eqs : TypeId → Option (List SK)) (orc : Nat → Option Orc) (call : Caller) : Prop where
  eqsOK : EqsOK P eqs
  orcOK : OrcOK P orc
  callOK : CallOK P call
  orcE : ∀ f h, orc f = some h → Enters P f
  callE : ∀ f args g r, call f args g = some r → Enters P f
theorem acall_enters (hE : Env P eqs orc call) {f : Nat} {args : List AV} {dst : Option Nat} {l : Ls} {g : Gs} {r : R} (hr : acall orc call f args dst l g = some r) : Enters P f := by
  unfold acall at hr
  split at hr
  · rename_i ho hof
    exact hE.orcE f ho hof
  · simp only [Option.bind_eq_some_iff] at hr
    obtain ⟨_, _, _, _, hr⟩ := hr
    split at hr
    · simp only [Option.bind_eq_some_iff] at hr
      obtain ⟨_, hc, _⟩ := hr
      exact hE.callE _ _ _ _ hc
    · cases hr
/-- One operation that is wanted. -/
theorem aoper_wp (hE : Env P eqs orc call) {o : Oper} {s : St} {a : Act} {w : World} {bl bg : Bl} (h : CR nt w0 g0 bl0 bg0 s a w bl bg) {r : R} (hr : aoper P eqs orc call o (opd s.e) s.l s.g = some r) {e' : List AV} (he : putA nt s.e o.dst r.v = some e') {K : Act → World → Prop} {Q : Exit → Act → World → Prop}
    (hK : ∀ a' w' bl' bg', CR nt w0 g0 bl0 bg0 ⟨e', r.l, r.g, addNew s.w r.wg⟩ a' w' bl' bg' → K a' w') : o.wp P a w K Q := by
  have viaN : ∀ {l' : Ls} {g' : Gs}, aop P eqs o (opd s.e) s.l s.g = some r → o.wp P a w K Q := fun {l' g'} hr => by
    obtain ⟨n, w', bl', bg', h1, h2, h3⟩ := aop_sound hE.eqsOK h.stp.sr (ρ := a.eval) h.opd hr
    unfold Oper.wp
    rw [h1]
    rcases h3 with ⟨u, rfl, hv⟩ | ⟨rfl, hv⟩
    · exact hK _ _ _ _ (h.put h2 hv he)
    · refine hK _ _ _ _ (h.put h2 (u := undef) ?_ he)
      rw [hv]
      exact .tup [] #[] rfl (by simp)
  unfold aoper at hr
  split at hr
  · rename_i c hop
    split at hr
    · rename_i f hcal
      split at hr
      · rename_i hf fs cs hfv
        simp only [Option.bind_eq_some_iff] at hr
        obtain ⟨as, has, hr⟩ := hr
        have hvf := h.opd f _ hfv
        obtain ⟨a1, a2⟩ := allSome_VR (ρ := a.eval) h.opd has
        obtain ⟨gs, vs, hval, f1, f2, f3, f4, f5⟩ : ∃ gs vs, a.eval f = .func (.func hf) gs vs ∧ fs.length = gs.size ∧ cs.length = vs.size ∧ (∀ c ∈ cs, c.isCell = true) ∧
            (∀ (i : Nat) (c : AV) (v : Value), fs[i]? = some c → gs[i]? = some v → VR w (mkM w s.l s.g bl bg) c v) ∧ (∀ (i : Nat) (c : AV) (v : Value), cs[i]? = some c → vs[i]? = some v → VR w (mkM w s.l s.g bl bg) c v) := by
          generalize a.eval f = u at hvf
          cases hvf with
          | fn _ _ _ gs vs q1 q2 q3 q4 q5 => exact ⟨gs, vs, rfl, q1, q2, q3, q4, q5⟩
        have hent := acall_enters hE hr
        have hrun : (execOp a.eval o).run P w = .ok (.enter hf (gs ++ c.args.map a.eval ++ vs)) w := by
          have e0 : execOp a.eval o = (do let d ← resolve a.eval c o.type; invoke d.target d.args) := by simp only [execOp, hop]
          rw [e0]
          unfold resolve
          simp only [hcal, hval, Deferred.ofValue, pure_bind, invoke]
          exact callFunc_enter hent _ w
        have hargs : ArgsR w (mkM w s.l s.g bl bg) (fs ++ as ++ cs) (gs ++ c.args.map a.eval ++ vs) := by
          refine ⟨by simp [f1, f2, a1], fun i x u hx hu => ?_⟩
          have hal : as.length = c.args.size := by simpa using a1
          rw [← Array.getElem?_toList] at hu
          simp only [Array.toList_append, Array.toList_map] at hu
          rcases Nat.lt_or_ge i fs.length with hi | hi
          · rw [List.append_assoc, List.getElem?_append_left hi] at hx
            rw [List.append_assoc, List.getElem?_append_left (by simp; omega)] at hu
            exact f4 i x u hx (by simpa using hu)
          · rcases Nat.lt_or_ge i (fs.length + as.length) with hi2 | hi2
            · rw [List.getElem?_append_left (by simp; omega), List.getElem?_append_right hi] at hx
              rw [List.getElem?_append_left (by simp; omega), List.getElem?_append_right (by simp; omega)] at hu
              exact a2 _ x u hx (by rw [← hu]; congr 1; simp [f1])
            · rw [List.getElem?_append_right (by simp; omega)] at hx
              rw [List.getElem?_append_right (by simp; omega)] at hu
              refine f5 _ x u hx ?_
              rw [← Array.getElem?_toList, ← hu]
              congr 1
              simp [f1, hal]
        have := acall_sound hE.orcOK hE.callOK h.stp.sr hr hargs
        unfold Oper.wp
        rw [hrun]
        refine Calls.mono this fun e w' ⟨u, bl', bg', he', hs, hv⟩ => ?_
        subst he'
        exact hK _ _ _ _ (h.put hs hv he)
      · cases hr
    · exact viaN (l' := []) (g' := []) hr
  · exact viaN (l' := []) (g' := []) hr
/-- One operation. -/
theorem stepA_wp (hE : Env P eqs orc call) {ops : Array Oper} {i : Nat} {o : Oper} (hi : ops[i]? = some o) {s s' : St} {fp : Fp} (hs : stepA P eqs orc call nt ops o s = some (s', fp)) {a : Act} {w : World} {bl bg : Bl} (h : CR nt w0 g0 bl0 bg0 s a w bl bg)
    {K : Act → World → Prop} {Q : Exit → Act → World → Prop} (hK : ∀ a' w' bl' bg', CR nt w0 g0 bl0 bg0 s' a' w' bl' bg' → K a' w') : wpOp P ops Q i K a w := by
  unfold stepA at hs
  simp only [Option.bind_eq_some_iff] at hs
  obtain ⟨b, hb, hs⟩ := hs
  have hw := h.wanted hb
  unfold wpOp
  simp only [hi, hw]
  cases b with
  | true =>
    simp only [if_true, Option.bind_eq_some_iff] at hs
    obtain ⟨r, hr, e, he, hs⟩ := hs
    injection hs with hs
    injection hs with e1 e2
    subst e1
    simp only [if_true]
    exact .inl (aoper_wp hE h hr he hK)
  | false =>
    simp only [Bool.false_eq_true, if_false, Option.bind_eq_some_iff] at hs
    obtain ⟨e, he, hs⟩ := hs
    injection hs with hs
    injection hs with e1 e2
    subst e1
    simp only [Bool.false_eq_true, if_false]
    have := h.put (Stp.refl h.stp.sr) (v := .tup []) (u := undef) (.tup [] #[] rfl (by simp)) he
    exact hK _ _ _ _ this
end
end Go.AE
