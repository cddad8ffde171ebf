import Derived.Test.YtmomeccgdpidiaaAe30
/-! What an operation looks at: stores, append, calls; all. -/
namespace Go.AE
variable {P : Program}
/-- A pass, and then something. -/
theorem Loc.ofX {α : Type} {f : X → Option (α × X)} (hf : LocX f) {k : α → Ls → Gs → Option R} (hk : ∀ a, Loc (k a)) :
    Loc (fun l g => (f ⟨l, g, .no⟩).bind fun (a, x) => (k a x.l x.g).bind fun r => some { r with fp := x.fp.add r.fp }) := by
  intro l g r h
  simp only [Option.bind_eq_some_iff] at h
  obtain ⟨⟨a, x⟩, h1, r0, h2, h⟩ := h
  injection h with h
  subst h
  obtain ⟨φ, f1, f2, f3, f4, f5⟩ := hf _ a x h1
  simp only at f1 f3 f4
  rw [Fp.no_add] at f1
  have hr := hk a x.l x.g r0 h2
  refine ⟨fun d hd => ?_, fun d hd => ?_, fun hh => ?_, fun hh => ?_, fun l' g' hl hg => ?_⟩
  · simp only [f1, Fp.add, List.mem_append] at hd ⊢
    exact hd.imp (f2 d) (hr.sub d)
  · simp only [f1, Fp.add, List.mem_append, not_or] at hd
    show lo r0.l d = _
    rw [hr.l0 d hd.2, f3 d hd.1]
  · simp only [f1, Fp.add, Bool.or_eq_false_iff] at hh
    show r0.g = g
    rw [hr.g0 hh.2, f4 hh.1]
  · simp only [f1, Fp.add, Bool.or_eq_false_iff] at hh
    exact hr.w0 hh.2
  · simp only [f1, Fp.add, List.mem_append] at hl
    have hg1 : (φ.rg || φ.hv) = true → g' = g := fun h => hg (by simp only [f1, Fp.add]; revert h; cases φ.rg <;> cases φ.hv <;> cases r0.fp.rg <;> cases r0.fp.hv <;> simp)
    have hg2 : (r0.fp.rg || r0.fp.hv) = true → g' = g := fun h => hg (by simp only [f1, Fp.add]; revert h; cases φ.rg <;> cases φ.hv <;> cases r0.fp.rg <;> cases r0.fp.hv <;> simp)
    obtain ⟨z, q1, q2, q3, q4, q5, q6⟩ := f5 ⟨l', g', .no⟩ (fun d hd => hl d (.inl hd)) hg1
    simp only at q2 q3 q4
    rw [Fp.no_add] at q2
    obtain ⟨r', m1, m2, m3, m4, m5, m6, m7, m8⟩ := hr.go z.l z.g (fun d hd => by
      by_cases hw : d ∈ φ.wl
      · exact q5 d hw
      · rw [q3 d hw, hl d (.inr hd), f3 d hw]) fun hh => by
        cases hv : φ.hv with
        | true => exact q6 hv
        | false => rw [q4 hv, f4 hv]; exact hg2 hh
    refine ⟨{ r' with fp := z.fp.add r'.fp }, by simp [q1, m1], m2, by simp only [q2, f1, m3], m4, fun d hd => ?_, fun hh => ?_, fun d hd => ?_, fun hh => ?_⟩
    · simp only [f1, Fp.add, List.mem_append, not_or] at hd
      show lo r'.l d = _
      rw [m5 d hd.2, q3 d hd.1]
    · simp only [f1, Fp.add, Bool.or_eq_false_iff] at hh
      show r'.g = g'
      rw [m6 hh.2, q4 hh.1]
    · simp only [f1, Fp.add, List.mem_append] at hd
      show lo r'.l d = lo r0.l d
      by_cases hd2 : d ∈ r0.fp.wl
      · exact m7 d hd2
      · rw [m5 d hd2, hr.l0 d hd2]
        exact q5 d (hd.resolve_right hd2)
    · simp only [f1, Fp.add, Bool.or_eq_true] at hh
      show r'.g = r0.g
      cases h2 : r0.fp.hv with
      | true => exact m8 h2
      | false =>
        rw [m6 h2, hr.g0 h2]
        exact q6 (hh.resolve_right (by simp [h2]))
/-- What looks at G and changes it, and no slot but those that it reads. -/
theorem Loc.gw (ψ : Fp) (hψ : ψ.hv = true) (hw : ψ.wl = []) (k : Gs → Option (AV × Gs × List Nat)) : Loc (fun l g => (k g).bind fun p => some (⟨p.1, l, p.2.1, ψ, p.2.2⟩ : R)) := by
  intro l g r h
  simp only [Option.bind_eq_some_iff] at h
  obtain ⟨p, hp, h⟩ := h
  injection h with h
  subst h
  refine ⟨by simp [hw], fun _ _ => rfl, fun hh => absurd (hψ.symm.trans hh) (by simp), fun hh => absurd (hψ.symm.trans hh) (by simp), fun l' g' hl hg => ?_⟩
  have := hg (by simp [hψ])
  subst this
  exact ⟨⟨p.1, l', p.2.1, ψ, p.2.2⟩, by simp [hp], rfl, rfl, rfl, fun _ _ => rfl, fun hh => absurd (hψ.symm.trans hh) (by simp), by simp [hw], fun _ => rfl⟩
/-- A slot is looked at first. -/
theorem Loc.look (d : Nat) {K : LO → Ls → Gs → Option R} (hK : ∀ o, Loc (K o)) (hd : ∀ o l g r, K o l g = some r → d ∈ r.fp.rl) : Loc (fun l g => K (lo l d) l g) := by
  intro l g r h
  obtain ⟨q1, q2, q3, q4, q5⟩ := hK _ l g r h
  refine ⟨q1, q2, q3, q4, fun l' g' hl hg => ?_⟩
  obtain ⟨r', m⟩ := q5 l' g' hl hg
  refine ⟨r', ?_⟩
  simp only [hl d (hd _ l g r h)]
  exact m
/-- G is looked at first. -/
theorem Loc.lookG {K : Gs → Ls → Gs → Option R} (hK : ∀ o, Loc (K o)) (hd : ∀ o l g r, K o l g = some r → (r.fp.rg || r.fp.hv) = true) : Loc (fun l g => K g l g) := by
  intro l g r h
  obtain ⟨q1, q2, q3, q4, q5⟩ := hK _ l g r h
  refine ⟨q1, q2, q3, q4, fun l' g' hl hg => ?_⟩
  obtain ⟨r', m⟩ := q5 l' g' hl hg
  have := hg (hd _ l g r h)
  subst this
  exact ⟨r', m⟩
/-- A slot is written. -/
theorem Loc.put (d : Nat) (o : Option (AV × LO)) : Loc (fun l g => o.bind fun p => some (⟨p.1, loPut l d p.2, g, .w d, []⟩ : R)) := by
  intro l g r h
  simp only [Option.bind_eq_some_iff] at h
  obtain ⟨p, hp, h⟩ := h
  injection h with h
  subst h
  subst hp
  refine ⟨by simp [Fp.w], fun e he => lo_put_ne _ _ (by simpa [Fp.w] using he), fun _ => rfl, fun _ => rfl, fun l' g' hl hg => ⟨⟨p.1, loPut l' d p.2, g', .w d, []⟩, rfl, rfl, rfl, rfl, fun e he => lo_put_ne _ _ (by simpa [Fp.w] using he), fun _ => rfl, fun e he => ?_, by simp [Fp.w]⟩⟩
  have : e = d := by simpa [Fp.w] using he
  subst this
  show lo (loPut _ _ _) _ = lo (loPut _ _ _) _
  rw [lo_put_same, lo_put_same]
/-- Something is read first. -/
theorem Loc.ofRd {α : Type} {A : Ls → Gs → Option (α × Fp)} (hA : RdL A) {k : α → Ls → Gs → Option R} (hk : ∀ a, Loc (k a)) :
    Loc (fun l g => (A l g).bind fun (a, fp) => (k a l g).bind fun r => some { r with fp := fp.add r.fp }) := by
  have hX : LocX (fun x : X => (A x.l x.g).bind fun p => some (p.1, (⟨x.l, x.g, x.fp.add p.2⟩ : X))) := by
    intro x a x' h
    simp only [Option.bind_eq_some_iff] at h
    obtain ⟨⟨v, fp⟩, h1, h⟩ := h
    injection h with h
    injection h with e1 e2
    subst e1 e2
    obtain ⟨q1, q2, q3⟩ := hA _ _ _ _ h1
    refine ⟨fp, rfl, by simp [q1], fun _ _ => rfl, fun _ => rfl, fun z hz hg => ⟨⟨z.l, z.g, z.fp.add fp⟩, ?_, rfl, fun _ _ => rfl, fun _ => rfl, by simp [q1], by simp [q2]⟩⟩
    rw [q3 z.l z.g hz fun h => hg (by simp [h])]
    rfl
  refine Loc.congr (fun l g => ?_) (Loc.ofX hX hk)
  cases A l g with
  | none => rfl
  | some p =>
    obtain ⟨a, fp⟩ := p
    simp [Fp.no_add]
theorem Loc.storeA (s : Nat) (a v : AV) : Loc (fun l g => AE.storeA l g s a v) := by
  unfold AE.storeA
  refine Loc.ite ?_ Loc.none
  have viaG : ∀ (r i j : Nat) (ψ : Fp), ψ.hv = true → ψ.wl = [] → Loc (fun l g => (AE.expV true v ⟨l, g, .no⟩).bind fun (v, x) => (x.g[r]?).bind fun o => (writeO o i j v.cells).bind fun o' => some (⟨.tup [], x.l, x.g.set r o', x.fp.add ψ, [r]⟩ : R)) := fun r i j ψ h1 h2 => by
    refine Loc.congr (fun l g => ?_) (Loc.ofX (LocX.expV true v) fun v => Loc.gw ψ h1 h2 fun g => (g[r]?).bind fun o => (writeO o i j v.cells).bind fun o' => some (AV.tup [], g.set r o', [r]))
    congr 1
    funext p
    obtain ⟨v, x⟩ := p
    cases hx : x.g[r]? with
    | none => simp [hx]
    | some o => cases hw : writeO o i j v.cells <;> simp [hx, hw]
  cases a with
  | lp d ver i j =>
    refine Loc.look d (K := fun o l g => match o with
      | .ob w o => if w = ver then (writeO o i j v.cells).bind fun o' => some (⟨.tup [], loPut l d (.ob w o'), g, .w d, []⟩ : R) else Option.none
      | .fwd w r =>
        if w = ver then
          (AE.expV true v ⟨l, g, .no⟩).bind fun (v, x) => (x.g[r]?).bind fun o => (writeO o i j v.cells).bind fun o' => some ⟨.tup [], x.l, x.g.set r o', x.fp.add ((Fp.r d).add .gw), [r]⟩
        else Option.none
      | .gone _ => Option.none) (fun o => ?_) fun o l g r h => ?_
    · cases o with
      | ob w o =>
        refine Loc.ite ?_ Loc.none
        refine Loc.congr (fun l g => ?_) (Loc.put d ((writeO o i j v.cells).bind fun o' => some (AV.tup [], .ob w o')))
        cases writeO o i j v.cells <;> rfl
      | fwd w r => exact Loc.ite (viaG r i j _ rfl rfl) Loc.none
      | gone _ => exact Loc.none
    · cases o with
      | ob w o =>
        simp only at h
        split at h
        · simp only [Option.bind_eq_some_iff] at h
          obtain ⟨o', _, h⟩ := h
          injection h with h
          subst h
          simp [Fp.w]
        · cases h
      | fwd w r =>
        simp only at h
        split at h
        · simp only [Option.bind_eq_some_iff] at h
          obtain ⟨p, _, o, _, o', _, h⟩ := h
          injection h with h
          subst h
          simp [Fp.add, Fp.r]
        · cases h
      | gone _ => cases h
  | gp r i j => exact viaG r i j .gw rfl rfl
  | _ => exact Loc.none
theorem Loc.fresh (d : Nat) (k n : Nat) (ys : List AV) : Loc (fun l g => some (⟨.ls d ((lo l d).ver + 1) 0 n, loPut l d (.ob ((lo l d).ver + 1) ⟨k, true, false, true, ys⟩), g, .w d, []⟩ : R)) := by
  have := Loc.new1 (some d) ⟨k, true, false, true, ys⟩ (fun d v => .ls d v 0 n)
  exact Loc.congr (fun l g => by simp only [AE.new1, newL_eq, Option.bind_some]) this
theorem Loc.appendA (t ty : TypeId) (s x : AV) (dst : Option Nat) : Loc (fun l g => AE.appendA P t ty s x dst l g) := by
  unfold AE.appendA
  simp only [newL_eq]
  split
  · rename_i e tx _ _
    refine Loc.bindO _ fun k => Loc.bindO _ fun by_ => Loc.bindO _ fun z => Loc.ite Loc.none ?_
    -- behind what is appended
    have key : ∀ ys : List AV, Loc (fun l g => if ys.all (fun y => y.good && y.cells.length == k) then
        (match s with
        | .nils => if ys.isEmpty then some (⟨.nils, l, g, .no, []⟩ : R) else dst.bind fun d => if ys.length * by_ ≤ 140737488355328 ∧ ys.length ≤ 9223372036854775807 then some ⟨.ls d ((lo l d).ver + 1) 0 ys.length, loPut l d (.ob ((lo l d).ver + 1) ⟨k, true, false, true, ys⟩), g, .w d, []⟩ else Option.none
        | .sl k' true xs => if k' = k ∧ xs.isEmpty then (if ys.isEmpty then some ⟨.sl k true [], l, g, .no, []⟩ else dst.bind fun d => if ys.length * by_ ≤ 140737488355328 ∧ ys.length ≤ 9223372036854775807 then some ⟨.ls d ((lo l d).ver + 1) 0 ys.length, loPut l d (.ob ((lo l d).ver + 1) ⟨k, true, false, true, ys⟩), g, .w d, []⟩ else Option.none) else Option.none
        | .ls d ver i n => (match lo l d with
          | .ob w o => if w = ver ∧ o.arr ∧ o.ok ∧ i = 0 ∧ n = o.xs.length ∧ k = o.k ∧ (n + ys.length) * by_ ≤ 140737488355328 ∧ n + ys.length ≤ 9223372036854775807 then some ⟨.ls d (ver + 1) 0 (n + ys.length), loPut l d (.ob (ver + 1) { o with xs := o.xs ++ ys }), g, .w d, []⟩ else Option.none
          | _ => Option.none)
        | .gs r i n => (g[r]?).bind fun o => if o.arr ∧ i = 0 ∧ n = o.xs.length ∧ k = o.k ∧ (n + ys.length) * by_ ≤ 140737488355328 ∧ n + ys.length ≤ 9223372036854775807 then some ⟨.gs r 0 (n + ys.length), l, g.set r { o with xs := o.xs ++ ys }, .gw, [r]⟩ else Option.none
        | _ => Option.none) else Option.none) := fun ys => by
      refine Loc.ite ?_ Loc.none
      have emp : ∀ v, Loc (fun l g => some (⟨v, l, g, .no, []⟩ : R)) := fun v => Loc.ret1 (some v)
      cases s with
      | nils => exact Loc.ite (emp _) (Loc.bindO _ fun d => Loc.ite (Loc.fresh d k _ ys) Loc.none)
      | sl k' ex xs =>
        cases ex with
        | true => exact Loc.ite (Loc.ite (emp _) (Loc.bindO _ fun d => Loc.ite (Loc.fresh d k _ ys) Loc.none)) Loc.none
        | false => exact Loc.none
      | ls d ver i n =>
        refine Loc.look d (K := fun q l g => match q with
          | .ob w o => if w = ver ∧ o.arr ∧ o.ok ∧ i = 0 ∧ n = o.xs.length ∧ k = o.k ∧ (n + ys.length) * by_ ≤ 140737488355328 ∧ n + ys.length ≤ 9223372036854775807 then some (⟨.ls d (ver + 1) 0 (n + ys.length), loPut l d (.ob (ver + 1) { o with xs := o.xs ++ ys }), g, .w d, []⟩ : R) else Option.none
          | _ => Option.none) (fun q => ?_) fun q l g r h => ?_
        · cases q with
          | ob w o => exact Loc.ite (Loc.put d (some (.ls d (ver + 1) 0 (n + ys.length), .ob (ver + 1) { o with xs := o.xs ++ ys }))) Loc.none
          | _ => exact Loc.none
        · cases q with
          | ob w o =>
            simp only at h
            split at h
            · injection h with h
              subst h
              simp [Fp.w]
            · cases h
          | _ => cases h
      | gs r i n =>
        refine Loc.congr (fun l g => ?_) (Loc.gw .gw rfl rfl fun g => (g[r]?).bind fun o => if o.arr ∧ i = 0 ∧ n = o.xs.length ∧ k = o.k ∧ (n + ys.length) * by_ ≤ 140737488355328 ∧ n + ys.length ≤ 9223372036854775807 then some (AV.gs r 0 (n + ys.length), g.set r { o with xs := o.xs ++ ys }, [r]) else Option.none)
        cases hq : g[r]? with
        | none => simp [hq]
        | some o =>
          simp only [hq, Option.bind_some]
          split <;> rfl
      | _ => exact Loc.none
    refine Loc.congr (fun l g => ?_) (Loc.ofRd (RdL.srcA (P := P) e tx x) key)
    cases AE.srcA P e tx x l g with
    | none => rfl
    | some p =>
      obtain ⟨ys, fp⟩ := p
      simp only [Option.bind_some]
      by_cases hall : ys.all (fun y => y.good && y.cells.length == k) = true
      · rw [if_pos hall, if_pos hall]
        have mk : ∀ d : Nat, ((if ys.length * by_ ≤ 140737488355328 ∧ ys.length ≤ 9223372036854775807 then some (⟨.ls d ((lo l d).ver + 1) 0 ys.length, loPut l d (.ob ((lo l d).ver + 1) ⟨k, true, false, true, ys⟩), g, .w d, []⟩ : R) else Option.none).bind fun r => some { r with fp := fp.add r.fp }) =
            (if ys.length * by_ ≤ 140737488355328 ∧ ys.length ≤ 9223372036854775807 then
              some (⟨.ls d ((lo l d).ver + 1) 0 ys.length, loPut l d (.ob ((lo l d).ver + 1) ⟨k, true, false, true, ys⟩), g, fp.add (.w d), []⟩ : R) else Option.none) := fun d => by split <;> rfl
        cases s with
        | nils =>
          simp only
          by_cases he : ys.isEmpty = true
          · rw [if_pos he, if_pos he]; simp [Fp.add_no]
          · rw [if_neg he, if_neg he]
            cases dst with
            | none => rfl
            | some d => exact mk d
        | sl k' ex xs =>
          cases ex with
          | true =>
            simp only
            by_cases hk : k' = k ∧ xs.isEmpty = true
            · rw [if_pos hk, if_pos hk]
              by_cases he : ys.isEmpty = true
              · rw [if_pos he, if_pos he]; simp [Fp.add_no]
              · rw [if_neg he, if_neg he]
                cases dst with
                | none => rfl
                | some d => exact mk d
            · rw [if_neg hk, if_neg hk]; rfl
          | false => rfl
        | ls d ver i n =>
          simp only
          cases lo l d with
          | ob w o =>
            simp only
            split <;> rfl
          | _ => rfl
        | gs r i n =>
          simp only
          cases hq : g[r]? with
          | none => rfl
          | some o =>
            simp only [Option.bind_some]
            split <;> rfl
        | _ => rfl
      · rw [if_neg hall, if_neg hall]; rfl
  · exact Loc.none
end Go.AE
