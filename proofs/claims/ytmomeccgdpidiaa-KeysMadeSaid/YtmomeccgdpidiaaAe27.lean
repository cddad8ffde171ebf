import Derived.Test.YtmomeccgdpidiaaAe26
/-! Whole calls. -/
namespace Go.AE
open Go.RowKit
section
variable {P : Program} {eqs : TypeId → Option (List SK)} {orc : Nat → Option Orc} {call : Caller} {rounds nt : Nat} {w0 : World} {g0 : Gs} {bl0 bg0 : Bl}
theorem Stp.glen {w : World} {l : Ls} {g : Gs} {bl bg : Bl} {w' : World} {l' : Ls} {g' : Gs} {bl' bg' : Bl} {wr : List Nat} (h : Stp w l g bl bg w' l' g' bl' bg' wr) : g.length ≤ g'.length := by
  rcases Nat.eq_zero_or_pos g.length with h0 | h0
  · omega
  · obtain ⟨o', h1, _⟩ := h.gs (g.length - 1) (g[g.length - 1]'(by omega)) (by simp)
    have := getElem?_lt h1
    omega
/-- How a result is read. -/
def oneRes (tmps : Array Value) : ResultVar → Sem Value
  | .tmp t => pure (tmps.getD t undef)
  | .cell c t => do loadVar t (← asAddr (tmps.getD c undef))
/-- One result. -/
theorem resA_run {s : St} {a : Act} {w : World} {bl bg : Bl} (hc : CR nt w0 g0 bl0 bg0 s a w bl bg) {r : ResultVar} {v : AV} (h : resA P s.e s.l s.g r = some v) :
    ∃ u, (oneRes a.tmps r).run P w = .ok u w ∧ VR w (mkM w s.l s.g bl bg) v u := by
  cases r with
  | tmp t =>
    simp only [resA, Option.some.injEq] at h
    subst h
    exact ⟨_, rfl, hc.opd (.tmp t) _ rfl⟩
  | cell c t =>
    simp only [resA, Option.bind_eq_some_iff] at h
    obtain ⟨sz, hs, ag, hag, ⟨v', fp⟩, hl, h⟩ := h
    injection h with h
    subst h
    have hv := hc.opd (.tmp c) _ rfl
    obtain ⟨u, hu, hr⟩ := loadA_run hc.stp.sr hs hag hv hl
    refine ⟨u, ?_, hr⟩
    rw [← hu]
    have hp : ∃ ad, a.eval (.tmp c) = .pointer (some ad) := by
      generalize lget AV.dead s.e c = z at hl hv
      generalize a.eval (.tmp c) = y at hv
      cases z <;> simp only [loadA] at hl <;> try (cases hl; done)
      all_goals (cases hv; exact ⟨_, rfl⟩)
    obtain ⟨ad, had⟩ := hp
    have had' : a.tmps.getD c undef = .pointer (some ad) := had
    simp only [oneRes, Instr.loadAt, had, had', Instr.sureAddr, asAddr]
theorem results_run {fn : Func} {tmps : Array Value} {w : World} {us : List Value} (h : us.length = fn.results.size) (hr : ∀ (i : Nat) (r : ResultVar) (u : Value), fn.results[i]? = some r → us[i]? = some u →
    (oneRes tmps r).run P w = .ok u w) :
    (results fn tmps).run P w = .ok (if h : us.toArray.size = 1 then us.toArray[0] else .tuple us.toArray) w := by
  have key : ∀ (rs : List ResultVar) (us : List Value), us.length = rs.length → (∀ (i : Nat) (r : ResultVar) (u : Value), rs[i]? = some r → us[i]? = some u → (oneRes tmps r).run P w = .ok u w) →
      (rs.mapM (oneRes tmps)).run P w = .ok us w := by
    intro rs
    induction rs with
    | nil =>
      intro us hl _
      have : us = [] := List.eq_nil_of_length_eq_zero hl
      subst this
      rfl
    | cons r rs ih =>
      intro us hl hh
      cases us with
      | nil => simp at hl
      | cons u us =>
        have h0 := hh 0 r u rfl rfl
        have h1 := ih us (by simpa using hl) fun i r u hr hu => hh (i + 1) r u (by simpa using hr) (by simpa using hu)
        rw [List.mapM_cons]
        simp only [Sem.run_bind, h0, Result.andThen_ok, h1, Sem.run_pure]
  have := key fn.results.toList us (by simpa using h) fun i r u hr' hu => hr i r u (by simpa using hr') hu
  have e : fn.results.mapM (oneRes tmps) = List.toArray <$> fn.results.toList.mapM (oneRes tmps) := Array.mapM_eq_mapM_toList
  have e2 : results fn tmps = (do let vs ← fn.results.mapM (oneRes tmps); pure (if h : vs.size = 1 then vs[0] else .tuple vs)) := rfl
  rw [e2, e]
  simp only [Sem.run_bind, Sem.run_map, this, Result.andThen_ok]
  rfl
end
end Go.AE
