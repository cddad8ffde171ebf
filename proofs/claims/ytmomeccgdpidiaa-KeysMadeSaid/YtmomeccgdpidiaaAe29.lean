import Derived.Test.YtmomeccgdpidiaaAe28
/-! What an operation looks at, and what it changes: all operations. -/
namespace Go.AE

theorem Fp.add_no (a : Fp) : a.add .no = a := by simp [Fp.add, Fp.no]
theorem Fp.no_add (a : Fp) : Fp.no.add a = a := by simp [Fp.add, Fp.no]
theorem Fp.add_assoc (a b c : Fp) : (a.add b).add c = a.add (b.add c) := by simp [Fp.add, List.append_assoc, Bool.or_assoc]
/-- A pass, from one state to another. -/
structure LocXAt {α : Type} (f : X → Option (α × X)) (x : X) (a : α) (x' : X) (φ : Fp) : Prop where
  fp : x'.fp = x.fp.add φ
  sub : ∀ d ∈ φ.wl, d ∈ φ.rl
  l0 : ∀ d, d ∉ φ.wl → lo x'.l d = lo x.l d
  g0 : φ.hv = false → x'.g = x.g
  go : ∀ z : X, (∀ d ∈ φ.rl, lo z.l d = lo x.l d) → ((φ.rg || φ.hv) = true → z.g = x.g) → ∃ z', f z = some (a, z') ∧ z'.fp = z.fp.add φ ∧ (∀ d, d ∉ φ.wl → lo z'.l d = lo z.l d) ∧ (φ.hv = false → z'.g = z.g) ∧ (∀ d ∈ φ.wl, lo z'.l d = lo x'.l d) ∧ (φ.hv = true → z'.g = x'.g)
def LocX {α : Type} (f : X → Option (α × X)) : Prop := ∀ x a x', f x = some (a, x') → ∃ φ, LocXAt f x a x' φ
theorem LocX.bind {α β : Type} {f : X → Option (α × X)} {k : α → X → Option (β × X)} (hf : LocX f) (hk : ∀ a, LocX (k a)) : LocX (fun x => (f x).bind fun p => k p.1 p.2) := by
  intro x b x2 h
  simp only [Option.bind_eq_some_iff] at h
  obtain ⟨⟨a, x1⟩, h1, h2⟩ := h
  obtain ⟨φ1, f1, f2, f3, f4, f5⟩ := hf x a x1 h1
  obtain ⟨φ2, k1, k2, k3, k4, k5⟩ := hk a x1 b x2 h2
  refine ⟨φ1.add φ2, by rw [k1, f1, Fp.add_assoc], fun d hd => ?_, fun d hd => ?_, fun hh => ?_, fun z hz hg => ?_⟩
  · simp only [Fp.add, List.mem_append] at hd ⊢
    exact hd.imp (f2 d) (k2 d)
  · simp only [Fp.add, List.mem_append, not_or] at hd
    rw [k3 d hd.2, f3 d hd.1]
  · simp only [Fp.add, Bool.or_eq_false_iff] at hh
    rw [k4 hh.2, f4 hh.1]
  · simp only [Fp.add, List.mem_append] at hz
    have hg1 : (φ1.rg || φ1.hv) = true → z.g = x.g := fun h => hg (by simp only [Fp.add]; revert h; cases φ1.rg <;> cases φ1.hv <;> cases φ2.rg <;> cases φ2.hv <;> simp)
    have hg2 : (φ2.rg || φ2.hv) = true → z.g = x.g := fun h => hg (by simp only [Fp.add]; revert h; cases φ1.rg <;> cases φ1.hv <;> cases φ2.rg <;> cases φ2.hv <;> simp)
    obtain ⟨z1, q1, q2, q3, q4, q5, q6⟩ := f5 z (fun d hd => hz d (.inl hd)) hg1
    obtain ⟨z2, r1, r2, r3, r4, r5, r6⟩ := k5 z1 (fun d hd => by
      by_cases hw : d ∈ φ1.wl
      · exact q5 d hw
      · rw [q3 d hw, hz d (.inr hd), f3 d hw]) fun hh => by
        cases hv : φ1.hv with
        | true => exact q6 hv
        | false => rw [q4 hv, f4 hv]; exact hg2 hh
    refine ⟨z2, by simp [q1, r1], by rw [r2, q2, Fp.add_assoc], fun d hd => ?_, fun hh => ?_, fun d hd => ?_, fun hh => ?_⟩
    · simp only [Fp.add, List.mem_append, not_or] at hd
      rw [r3 d hd.2, q3 d hd.1]
    · simp only [Fp.add, Bool.or_eq_false_iff] at hh
      rw [r4 hh.2, q4 hh.1]
    · simp only [Fp.add, List.mem_append] at hd
      by_cases hd2 : d ∈ φ2.wl
      · exact r5 d hd2
      · rw [r3 d hd2, k3 d hd2]
        exact q5 d (hd.resolve_right hd2)
    · simp only [Fp.add, Bool.or_eq_true] at hh
      cases h2 : φ2.hv with
      | true => exact r6 h2
      | false =>
        rw [r4 h2, k4 h2]
        exact q6 (hh.resolve_right (by simp [h2]))
theorem LocX.same {α : Type} (a : α) : LocX (fun x => some (a, x)) := by
  intro x b x' h
  simp only [Option.some.injEq, Prod.mk.injEq] at h
  obtain ⟨rfl, rfl⟩ := h
  exact ⟨.no, (Fp.add_no _).symm, by simp [Fp.no], fun _ _ => rfl, fun _ => rfl, fun z _ _ => ⟨z, rfl, (Fp.add_no _).symm, fun _ _ => rfl, fun _ => rfl, by simp [Fp.no], by simp [Fp.no]⟩⟩
theorem LocX.none {α : Type} : LocX (fun _ => (Option.none : Option (α × X))) := fun _ _ _ h => nomatch h
theorem LocX.congr {α : Type} {f g : X → Option (α × X)} (h : ∀ x, f x = g x) (hf : LocX f) : LocX g := by
  have : f = g := funext h
  exact this ▸ hf
theorem LocX.mapS {f : AV → X → Option (AV × X)} (hf : ∀ c, LocX (f c)) : ∀ cs, LocX (AE.mapS f cs)
  | [] => LocX.same []
  | c :: cs => by
    refine LocX.congr (f := fun x => (f c x).bind fun p => (AE.mapS f cs p.2).bind fun q => some (p.1 :: q.1, q.2)) (fun x => rfl) ?_
    exact LocX.bind (hf c) fun a => LocX.bind (LocX.mapS hf cs) fun as => LocX.same (a :: as)
def expEF (f : AV → X → Option (AV × X)) (y : AV) (s : X) : Option (AV × X) :=
  match y with
  | .agg cs => (AE.mapS f cs s).bind fun (cs, s) => some (.agg cs, s)
  | y => f y s
theorem LocX.expE {f : AV → X → Option (AV × X)} (hf : ∀ c, LocX (f c)) (y : AV) : LocX (expEF f y) := by
  cases y with
  | agg cs => exact LocX.bind (LocX.mapS hf cs) fun as => LocX.same (AV.agg as)
  | _ => exact hf _
theorem lo_put_of {l l' : Ls} {d : Nat} {o : LO} (e : Nat) (h : e ≠ d) (hl : lo l e = lo l' e) : lo (loPut l d o) e = lo l' e := by rw [lo_put_ne _ _ h, hl]
theorem LocX.expN : ∀ (n : Nat) (keep : Bool) (c : AV), LocX (AE.expN n keep c)
  | 0, keep, c => LocX.none
  | n + 1, keep, c => by
    cases c with
    | ls d ver i m =>
      intro x a x' h
      simp only [AE.expN] at h
      split at h
      · rename_i v o hlo
        split at h
        · rename_i hc
          split at h
          · rename_i hkeep
            split at h
            · rename_i hc2
              injection h with h
              injection h with e1 e2
              subst e1 e2
              refine ⟨(Fp.w d).add .gw, rfl, by simp [Fp.add, Fp.w, Fp.gw], fun e he => lo_put_ne _ _ (by simpa [Fp.add, Fp.w, Fp.gw] using he), fun hh => by simp [Fp.add, Fp.w, Fp.gw] at hh, fun z hz hg => ?_⟩
              have hzd : lo z.l d = .ob v o := (hz d (by simp [Fp.add, Fp.w, Fp.gw])).trans hlo
              have hzg := hg (by simp [Fp.add, Fp.w, Fp.gw])
              refine ⟨⟨loPut z.l d (.gone v), z.g ++ [{ o with fz := true }], z.fp.add ((Fp.w d).add .gw)⟩, ?_, rfl, fun e he => lo_put_ne _ _ (by simpa [Fp.add, Fp.w, Fp.gw] using he), fun hh => by simp [Fp.add, Fp.w, Fp.gw] at hh, fun e he => ?_, fun _ => by rw [hzg]⟩
              · simp only [AE.expN, hzd]
                rw [if_pos hc, if_pos hkeep, if_pos hc2, hzg]
              · have : e = d := by simpa [Fp.add, Fp.w, Fp.gw] using he
                subst this
                simp
            · cases h
          · rename_i hkeep
            injection h with h
            injection h with e1 e2
            subst e1 e2
            by_cases hfz : o.fz = true
            · refine ⟨.r d, by simp only [hfz, if_true], by simp [Fp.r], fun e _ => by simp only [hfz, if_true], fun _ => rfl, fun z hz hg => ?_⟩
              have hzd : lo z.l d = .ob v o := (hz d (by simp [Fp.r])).trans hlo
              refine ⟨⟨z.l, z.g, z.fp.add (.r d)⟩, ?_, rfl, fun _ _ => rfl, fun _ => rfl, by simp [Fp.r], by simp [Fp.r]⟩
              simp only [AE.expN, hzd]
              rw [if_pos hc, if_neg hkeep]
              simp only [hfz, if_true]
            · refine ⟨.w d, by simp only [hfz]; rfl, by simp [Fp.w], fun e he => by simp only [hfz]; exact lo_put_ne _ _ (by simpa [Fp.w] using he), fun _ => rfl, fun z hz hg => ?_⟩
              have hzd : lo z.l d = .ob v o := (hz d (by simp [Fp.w])).trans hlo
              refine ⟨⟨loPut z.l d (.ob v { o with fz := true }), z.g, z.fp.add (.w d)⟩, ?_, rfl, fun e he => lo_put_ne _ _ (by simpa [Fp.w] using he), fun _ => rfl, fun e he => ?_, by simp [Fp.w]⟩
              · simp only [AE.expN, hzd]
                rw [if_pos hc, if_neg hkeep]
                simp only [hfz]
                rfl
              · have : e = d := by simpa [Fp.w] using he
                subst this
                simp only [hfz]
                simp
        · cases h
      · cases h
    | lp d ver i j =>
      intro x a x' h
      simp only [AE.expN] at h
      split at h
      · rename_i v o hlo
        split at h
        · rename_i hc
          simp only [Option.bind_eq_some_iff] at h
          obtain ⟨⟨xs, s⟩, h1, h⟩ := h
          obtain ⟨φ, f1, f2, f3, f4, f5⟩ := LocX.mapS (fun y => LocX.expE (fun c => LocX.expN n true c) y) o.xs _ xs s h1
          simp only at f1 f3 f4
          split at h
          · rename_i v2 o2 hlo2
            split at h
            · rename_i hc2
              injection h with h
              injection h with e1 e2
              subst e1 e2
              refine ⟨((Fp.w d).add .gw).add φ, by simp only [f1, Fp.add_assoc], fun e he => ?_, fun e he => ?_, fun hh => by simp [Fp.add, Fp.w, Fp.gw] at hh, fun z hz hg => ?_⟩
              · simp only [Fp.add, Fp.w, Fp.gw, List.append_nil, List.mem_append, List.mem_singleton] at he ⊢
                exact he.imp id (f2 e)
              · simp only [Fp.add, Fp.w, Fp.gw, List.append_nil, List.mem_append, List.mem_singleton, not_or] at he
                rw [lo_put_ne _ _ he.1, f3 e he.2]
              · have hz' : ∀ e, e = d ∨ e ∈ φ.rl → lo z.l e = lo x.l e := fun e he => hz e (by simp only [Fp.add, Fp.w, Fp.gw, List.append_nil, List.mem_append, List.mem_singleton]; exact he)
                have hzd : lo z.l d = .ob v o := (hz' d (.inl rfl)).trans hlo
                have hzg : z.g = x.g := hg (by simp [Fp.add, Fp.w, Fp.gw])
                obtain ⟨s', q1, q2, q3, q4, q5, q6⟩ := f5 ⟨z.l, z.g, z.fp.add ((Fp.w d).add .gw)⟩ (fun e he => hz' e (.inr he)) (fun _ => hzg)
                simp only at q2 q3 q4
                have hsd : lo s'.l d = lo s.l d := by
                  by_cases hw : d ∈ φ.wl
                  · exact q5 d hw
                  · rw [q3 d hw, f3 d hw, hzd, hlo]
                have hsg : s'.g = s.g := by
                  cases hh : φ.hv with
                  | true => exact q6 hh
                  | false => rw [q4 hh, f4 hh, hzg]
                refine ⟨⟨loPut s'.l d (.fwd v s'.g.length), s'.g ++ [{ o with xs := xs, ok := false }], s'.fp⟩, ?_, by simp only [q2, Fp.add_assoc], fun e he => ?_, fun hh => by simp [Fp.add, Fp.w, Fp.gw] at hh, fun e he => ?_, fun _ => by rw [hsg]⟩
                · simp only [AE.expN, hzd]
                  rw [if_pos hc]
                  refine Option.bind_eq_some_iff.2 ⟨(xs, s'), q1, ?_⟩
                  simp only [hsd, hlo2]
                  rw [if_pos hc2, hsg]
                · simp only [Fp.add, Fp.w, Fp.gw, List.append_nil, List.mem_append, List.mem_singleton, not_or] at he
                  rw [lo_put_ne _ _ he.1, q3 e he.2]
                · simp only [Fp.add, Fp.w, Fp.gw, List.append_nil, List.mem_append, List.mem_singleton] at he
                  by_cases hed : e = d
                  · subst hed
                    rw [lo_put_same, lo_put_same, hsg]
                  · rw [lo_put_ne _ _ hed, lo_put_ne _ _ hed]
                    exact q5 e (he.resolve_left hed)
            · cases h
          · cases h
        · cases h
      · rename_i v r hlo
        split at h
        · rename_i hc
          injection h with h
          injection h with e1 e2
          subst e1 e2
          refine ⟨.r d, rfl, by simp [Fp.r], fun _ _ => rfl, fun _ => rfl, fun z hz hg => ?_⟩
          have hzd : lo z.l d = .fwd v r := (hz d (by simp [Fp.r])).trans hlo
          refine ⟨⟨z.l, z.g, z.fp.add (.r d)⟩, ?_, rfl, fun _ _ => rfl, fun _ => rfl, by simp [Fp.r], by simp [Fp.r]⟩
          simp only [AE.expN, hzd]
          rw [if_pos hc]
        · cases h
      · cases h
    | gs r i m =>
      cases keep with
      | true => exact LocX.congr (fun x => by simp [AE.expN]) (LocX.same (.gs r i m))
      | false =>
        intro x a x' h
        simp only [AE.expN, Bool.false_eq_true, if_false, Option.bind_eq_some_iff] at h
        obtain ⟨o, ho, h⟩ := h
        split at h
        · rename_i hc
          injection h with h
          injection h with e1 e2
          subst e1 e2
          refine ⟨.gr, rfl, by simp [Fp.gr], fun _ _ => rfl, fun _ => rfl, fun z hz hg => ⟨⟨z.l, z.g, z.fp.add .gr⟩, ?_, rfl, fun _ _ => rfl, fun _ => rfl, by simp [Fp.gr], by simp [Fp.gr]⟩⟩
          have hzg := hg (by simp [Fp.gr])
          simp only [AE.expN, Bool.false_eq_true, if_false, hzg, ho, Option.bind_some]
          rw [if_pos hc]
        · cases h
    | fn f fs cs =>
      by_cases hfs : fs.all AV.good = true
      · refine LocX.congr (f := fun x => (AE.mapS (AE.expN n keep) cs x).bind fun p => (fun as (x : X) => if as.all AV.gclI then some (AV.fn f fs as, x) else Option.none) p.1 p.2) (fun x => by simp only [AE.expN]; rw [if_pos hfs]) ?_
        refine LocX.bind (k := fun as (x : X) => if as.all AV.gclI then some (AV.fn f fs as, x) else Option.none) (LocX.mapS (fun c => LocX.expN n keep c) cs) fun as => ?_
        by_cases ha : as.all AV.gclI = true
        · exact LocX.congr (fun x => by rw [if_pos ha]) (LocX.same (AV.fn f fs as))
        · exact LocX.congr (fun x => by rw [if_neg ha]) LocX.none
      · exact LocX.congr (fun x => by simp only [AE.expN]; rw [if_neg hfs]) LocX.none
    | agg _ => exact LocX.none
    | tup _ => exact LocX.none
    | own _ _ _ => exact LocX.none
    | dead => exact LocX.none
    | rp _ _ => exact LocX.none
    | _ => exact LocX.same _
theorem LocX.expV (keep : Bool) (v : AV) : LocX (AE.expV keep v) := by
  have := LocX.expE (fun c => LocX.expN depthX keep c) v
  refine LocX.congr (fun x => ?_) this
  cases v <;> rfl
end Go.AE
