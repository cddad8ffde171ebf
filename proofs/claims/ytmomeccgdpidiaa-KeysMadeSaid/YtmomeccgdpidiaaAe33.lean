import Derived.Test.YtmomeccgdpidiaaAe32
/-! What an operation looks at: calls; and all. -/
namespace Go.AE
variable {P : Program} {eqs : TypeId → Option (List SK)} {orc : Nat → Option Orc} {call : Caller}
theorem Loc.impA (dst : Option Nat) (v : AV) : Loc (fun l g => AE.impA dst v l g .no []) := by
  by_cases ho : ∃ k fz xs, v = .own k fz xs
  · obtain ⟨k, fz, xs, rfl⟩ := ho
    refine Loc.congr (fun l g => ?_) (Loc.new1 dst ⟨k, true, fz, true, xs⟩ (fun d v => .ls d v 0 xs.length))
    cases dst <;> rfl
  · refine Loc.congr (fun l g => ?_) (Loc.ret1 (some v))
    cases v <;> first | rfl | exact absurd ⟨_, _, _, rfl⟩ ho
theorem impA_fp (dst : Option Nat) (v : AV) (l : Ls) (g : Gs) (fp : Fp) (wg : List Nat) : AE.impA dst v l g fp wg = (AE.impA dst v l g .no wg).bind fun r => some { r with fp := fp.add r.fp } := by
  by_cases ho : ∃ k fz xs, v = .own k fz xs
  · obtain ⟨k, fz, xs, rfl⟩ := ho
    cases dst <;> rfl
  · cases v <;> first | (simp [AE.impA, Fp.add_no]; done) | exact absurd ⟨_, _, _, rfl⟩ ho
theorem LocX.eatA (a : AV) : LocX (fun x : X => (AE.eatA a x.l).bind fun p => some (p.1, (⟨p.2.1, x.g, x.fp.add p.2.2⟩ : X))) := by
  cases a with
  | nils => exact LocX.congr (fun x => by simp [AE.eatA, Fp.add_no]) (LocX.same .nils)
  | sl k ex xs =>
    cases ex with
    | false => exact LocX.none
    | true =>
      cases xs with
      | nil => exact LocX.congr (fun x => by simp [AE.eatA, Fp.add_no]) (LocX.same (.sl k true []))
      | cons _ _ => exact LocX.none
  | ls d ver i n =>
    intro x a x' h
    simp only [AE.eatA, Option.bind_eq_some_iff] at h
    obtain ⟨p, hp, h⟩ := h
    split at hp
    · rename_i w o hlo
      split at hp
      · rename_i hc
        injection hp with hp
        subst hp
        injection h with h
        injection h with e1 e2
        subst e1 e2
        refine ⟨.w d, rfl, by simp [Fp.w], fun e he => lo_put_ne _ _ (by simpa [Fp.w] using he), fun _ => rfl, fun z hz hg => ⟨⟨loPut z.l d (.gone w), z.g, z.fp.add (.w d)⟩, ?_, rfl, fun e he => lo_put_ne _ _ (by simpa [Fp.w] using he), fun _ => rfl, fun e he => ?_, by simp [Fp.w]⟩⟩
        · simp only [AE.eatA, hz d (by simp [Fp.w]), hlo]
          rw [if_pos hc]
          rfl
        · have : e = d := by simpa [Fp.w] using he
          subst this
          simp
      · cases hp
    · cases hp
  | _ => exact LocX.none
theorem reach_nil (g : Gs) : ∀ n, reach g n [] = []
  | 0 => rfl
  | n + 1 => by simp only [reach, List.flatMap_nil, addNew]; exact reach_nil g n
/-- What comes back from a call of the program's own. -/
def ownK (call : Caller) (f : Nat) (dst : Option Nat) (as : List AV) (g0 : Gs) (l : Ls) (g : Gs) : Option R :=
  let ids := reach g0 depthG (addNew [] (as.flatMap refsV))
  (pick g0 ids).bind fun gs =>
  if gs.all (fun o => (refsO o).all fun r => ids.any (· == r)) then
    (call f (as.map (renV (idx · ids))) (gs.map (renO (idx · ids)))).bind fun (v, g', w) =>
    if w.isEmpty ∧ g'.length = ids.length then
      if ids.isEmpty then (if (refsV v).isEmpty then AE.impA dst v l g .no [] else Option.none) else AE.impA dst (renV (outI ids g0.length) v) l g .gr []
    else AE.impA dst (renV (outI ids g0.length) v) l (back (outI ids g0.length) g0 ids g') .gw (w.map (outI ids g0.length))
  else Option.none
theorem Loc.impGR (dst : Option Nat) (v : AV) : Loc (fun l g => AE.impA dst v l g .gr []) := by
  have hA : RdL (fun _ _ => some ((), Fp.gr)) := fun l g v fp h => by
    injection h with h
    injection h with _ h
    subst h
    exact ⟨rfl, rfl, fun _ _ _ _ => rfl⟩
  refine Loc.congr (fun l g => ?_) (Loc.ofRd hA fun _ => Loc.impA dst v)
  exact (impA_fp dst v l g .gr []).symm
theorem Loc.impGW (dst : Option Nat) (v : AV) (G1 : Gs) (wg : List Nat) : Loc (fun l _ => AE.impA dst v l G1 .gw wg) := by
  have base : Loc (fun l g => (some (AV.nilp, G1, wg)).bind fun p => some (⟨p.1, l, p.2.1, .gw, p.2.2⟩ : R)) := Loc.gw .gw rfl rfl fun _ => some (AV.nilp, G1, wg)
  intro l g r h
  by_cases ho : ∃ k fz xs, v = .own k fz xs
  · obtain ⟨k, fz, xs, rfl⟩ := ho
    cases dst with
    | none => cases h
    | some d =>
      simp only [AE.impA, newL_eq, Option.bind_some] at h
      injection h with h
      subst h
      refine ⟨by simp [Fp.add, Fp.w, Fp.gw], fun e he => lo_put_ne _ _ (by simpa [Fp.add, Fp.w, Fp.gw] using he), fun hh => by simp [Fp.add, Fp.w, Fp.gw] at hh, fun hh => by simp [Fp.add, Fp.w, Fp.gw] at hh, fun l' g' hl hg => ⟨⟨.ls d ((lo l' d).ver + 1) 0 xs.length, loPut l' d (.ob ((lo l' d).ver + 1) ⟨k, true, fz, true, xs⟩), G1, Fp.gw.add (.w d), wg⟩, by simp only [AE.impA, newL_eq, Option.bind_some], ?_, rfl, rfl, fun e he => lo_put_ne _ _ (by simpa [Fp.add, Fp.w, Fp.gw] using he), fun hh => by simp [Fp.add, Fp.w, Fp.gw] at hh, fun e he => ?_, fun _ => rfl⟩⟩
      · show AV.ls d _ _ _ = AV.ls d _ _ _
        rw [hl d (by simp [Fp.add, Fp.w, Fp.gw])]
      · have : e = d := by simpa [Fp.add, Fp.w, Fp.gw] using he
        subst this
        show lo (loPut _ _ _) _ = lo (loPut _ _ _) _
        rw [lo_put_same, lo_put_same, hl e (by simp [Fp.add, Fp.w, Fp.gw])]
  · have h' : some (⟨v, l, G1, .gw, wg⟩ : R) = some r := by cases v <;> first | exact h | exact absurd ⟨_, _, _, rfl⟩ ho
    injection h' with h'
    subst h'
    refine ⟨by simp [Fp.gw], fun _ _ => rfl, fun hh => by simp [Fp.gw] at hh, fun hh => by simp [Fp.gw] at hh, fun l' g' hl hg => ⟨⟨v, l', G1, .gw, wg⟩, ?_, rfl, rfl, rfl, fun _ _ => rfl, fun hh => by simp [Fp.gw] at hh, by simp [Fp.gw], fun _ => rfl⟩⟩
    cases v <;> first | rfl | exact absurd ⟨_, _, _, rfl⟩ ho
theorem impA_hv {dst : Option Nat} {v : AV} {l : Ls} {g : Gs} {fp : Fp} {wg : List Nat} {r : R} (h : AE.impA dst v l g fp wg = some r) (hf : (fp.rg || fp.hv) = true) : (r.fp.rg || r.fp.hv) = true := by
  rw [impA_fp] at h
  simp only [Option.bind_eq_some_iff] at h
  obtain ⟨r0, _, h⟩ := h
  injection h with h
  subst h
  simp only [Fp.add]
  revert hf
  cases fp.rg <;> cases fp.hv <;> cases r0.fp.rg <;> cases r0.fp.hv <;> simp
theorem Loc.ownK (f : Nat) (dst : Option Nat) (as : List AV) : Loc (fun l g => AE.ownK call f dst as g l g) := by
  by_cases hn : addNew [] (as.flatMap refsV) = []
  · have e : ∀ (g0 : Gs) (l : Ls) (g : Gs), AE.ownK call f dst as g0 l g = (call f (as.map (renV (idx · []))) []).bind fun p =>
        if p.2.2.isEmpty ∧ p.2.1.length = 0 then (if (refsV p.1).isEmpty then AE.impA dst p.1 l g .no [] else Option.none) else AE.impA dst (renV (outI [] g0.length) p.1) l (back (outI [] g0.length) g0 [] p.2.1) .gw (p.2.2.map (outI [] g0.length)) := fun g0 l g => by
      simp only [AE.ownK, hn, reach_nil]
      rfl
    refine Loc.congr (fun l g => (e g l g).symm) (Loc.bindO _ fun p => Loc.ite (Loc.ite (Loc.impA dst _) Loc.none) ?_)
    exact Loc.lookG (K := fun g0 l g => AE.impA dst (renV (outI [] g0.length) p.1) l (back (outI [] g0.length) g0 [] p.2.1) .gw (p.2.2.map (outI [] g0.length))) (fun g0 => Loc.impGW _ _ _ _) fun g0 l g r h => impA_hv h rfl
  · refine Loc.lookG (K := fun g0 l g => AE.ownK call f dst as g0 l g) (fun g0 => ?_) fun g0 l g r h => ?_
    · unfold AE.ownK
      refine Loc.bindO _ fun gs => Loc.ite (Loc.bindO _ fun p => ?_) Loc.none
      exact Loc.ite (Loc.ite (Loc.ite (Loc.impA dst _) Loc.none) (Loc.impGR dst _)) (Loc.impGW _ _ _ _)
    · have hne : (reach g0 depthG (addNew [] (as.flatMap refsV))).isEmpty = false := by
        obtain ⟨n1, _, _⟩ := addNew_spec (m := as.flatMap refsV) (l := []) (by simp)
        obtain ⟨x, hx⟩ := List.exists_mem_of_ne_nil _ hn
        have := (reach_spec g0 depthG n1).2 x hx
        cases hq : reach g0 depthG (addNew [] (as.flatMap refsV)) with
        | nil => rw [hq] at this; cases this
        | cons _ _ => rfl
      simp only [AE.ownK, Option.bind_eq_some_iff] at h
      obtain ⟨gs, _, h⟩ := h
      split at h
      · simp only [Option.bind_eq_some_iff] at h
        obtain ⟨p, _, h⟩ := h
        split at h
        · rw [hne] at h
          exact impA_hv h rfl
        · exact impA_hv h rfl
      · cases h
theorem ownK_fp (f : Nat) (dst : Option Nat) (as : List AV) (l : Ls) (g : Gs) (fp : Fp) : ((AE.ownK call f dst as g l g).bind fun r => some { r with fp := fp.add r.fp }) =
    (let ids := reach g depthG (addNew [] (as.flatMap refsV))
    (pick g ids).bind fun gs =>
    if gs.all (fun o => (refsO o).all fun r => ids.any (· == r)) then
      (call f (as.map (renV (idx · ids))) (gs.map (renO (idx · ids)))).bind fun (v, g', w) =>
      if w.isEmpty ∧ g'.length = ids.length then
        if ids.isEmpty then (if (refsV v).isEmpty then AE.impA dst v l g fp [] else Option.none) else AE.impA dst (renV (outI ids g.length) v) l g (fp.add .gr) []
      else AE.impA dst (renV (outI ids g.length) v) l (back (outI ids g.length) g ids g') (fp.add .gw) (w.map (outI ids g.length))
    else Option.none) := by
  unfold AE.ownK
  generalize reach g depthG (addNew [] (as.flatMap refsV)) = ids
  dsimp only
  cases pick g ids with
  | none => rfl
  | some gs =>
    simp only [Option.bind_some]
    by_cases hc : gs.all (fun o => (refsO o).all fun r => ids.any (· == r)) = true
    · rw [if_pos hc, if_pos hc]
      cases call f (as.map (renV (idx · ids))) (gs.map (renO (idx · ids))) with
      | none => rfl
      | some q =>
        obtain ⟨v, g', w⟩ := q
        simp only [Option.bind_some]
        by_cases h1 : w.isEmpty ∧ g'.length = ids.length
        · rw [if_pos h1, if_pos h1]
          by_cases h2 : ids.isEmpty = true
          · rw [if_pos h2, if_pos h2]
            by_cases h3 : (refsV v).isEmpty = true
            · rw [if_pos h3, if_pos h3]
              exact (impA_fp _ _ _ _ _ _).symm
            · rw [if_neg h3, if_neg h3]; rfl
          · rw [if_neg h2, if_neg h2, impA_fp dst _ l g .gr [], impA_fp dst _ l g (fp.add .gr) []]
            cases AE.impA dst (renV (outI ids g.length) v) l g .no [] with
            | none => rfl
            | some r => simp [Fp.add_assoc]
        · rw [if_neg h1, if_neg h1, impA_fp dst _ l _ .gw _, impA_fp dst _ l _ (fp.add .gw) _]
          cases AE.impA dst (renV (outI ids g.length) v) l (back (outI ids g.length) g ids g') .no (w.map (outI ids g.length)) with
          | none => rfl
          | some r => simp [Fp.add_assoc]
    · rw [if_neg hc, if_neg hc]; rfl
attribute [local irreducible] AE.mapS AE.reach AE.expV AE.ownK
theorem Loc.acall (f : Nat) (args : List AV) (dst : Option Nat) : Loc (fun l g => AE.acall orc call f args dst l g) := by
  unfold AE.acall
  split
  · rename_i h _
    split
    · cases args with
      | nil => exact Loc.none
      | cons a as =>
        have hk : ∀ as' : List AV, Loc (fun l g => if as'.all (fun a => (refsV a).isEmpty) then (AE.eatA a l).bind fun (a, l', fp) => (h.run (a :: as')).bind fun v => AE.impA dst v l' g fp [] else Option.none) := fun as' => by
          refine Loc.ite ?_ Loc.none
          refine Loc.congr (fun l g => ?_) (Loc.ofX (LocX.eatA a) fun a => Loc.bindO (h.run (a :: as')) fun v => Loc.impA dst v)
          cases AE.eatA a l with
          | none => rfl
          | some p =>
            obtain ⟨b, l', fp⟩ := p
            simp only [Option.bind_some, Fp.no_add]
            cases h.run (b :: as') with
            | none => rfl
            | some v => exact (impA_fp dst v l' g fp []).symm
        refine Loc.congr (fun l g => ?_) (Loc.ofX (LocX.mapS (fun c => LocX.expV false c) as) hk)
        simp only
        cases AE.mapS (AE.expV false) as ⟨l, g, .no⟩ with
        | none => rfl
        | some p =>
          obtain ⟨as', x⟩ := p
          simp only [Option.bind_some]
          split
          · cases AE.eatA a x.l with
            | none => rfl
            | some q =>
              obtain ⟨b, l', fp⟩ := q
              simp only [Option.bind_some]
              cases h.run (b :: as') with
              | none => rfl
              | some v =>
                simp only [Option.bind_some]
                rw [impA_fp dst v l' x.g fp [], impA_fp dst v l' x.g (x.fp.add fp) []]
                cases AE.impA dst v l' x.g .no [] with
                | none => rfl
                | some r => simp [Fp.add_assoc]
          · rfl
    · refine Loc.congr (fun l g => ?_) (Loc.ofX (LocX.mapS (fun c => LocX.expV false c) args) fun as => Loc.ite (c := as.all (fun a => (refsV a).isEmpty) = true) (Loc.bindO (h.run as) fun v => Loc.impA dst v) Loc.none)
      cases AE.mapS (AE.expV false) args ⟨l, g, .no⟩ with
      | none => rfl
      | some p =>
        obtain ⟨as', x⟩ := p
        simp only [Option.bind_some]
        split
        · cases h.run as' with
          | none => rfl
          | some v => exact (impA_fp dst v x.l x.g x.fp []).symm
        · rfl
  · refine Loc.congr (fun l g => ?_) (Loc.ofX (LocX.mapS (fun c => LocX.expV false c) args) fun as => Loc.ownK (call := call) f dst as)
    cases AE.mapS (AE.expV false) args ⟨l, g, .no⟩ with
    | none => rfl
    | some p =>
      obtain ⟨as', x⟩ := p
      exact ownK_fp f dst as' x.l x.g x.fp
theorem Loc.aoper (call : Caller) (o : Oper) (e : List AV) : Loc (fun l g => AE.aoper P eqs orc call o (opd e) l g) := by
  unfold AE.aoper
  split
  · split
    · split
      · exact Loc.bindO _ fun as => Loc.acall _ _ _
      · exact Loc.none
    · exact Loc.aop _ _
  · exact Loc.aop _ _
end Go.AE
