import Derived.Test.YtmomeccgdpidiaaAe23
/-! Which order plays no part. -/
namespace Go.AE

/-- What an operation looks at, and what it changes. -/
structure LocAt (F : Ls → Gs → Option R) (l : Ls) (g : Gs) (r : R) : Prop where
  sub : ∀ d ∈ r.fp.wl, d ∈ r.fp.rl
  l0 : ∀ d, d ∉ r.fp.wl → lo r.l d = lo l d
  g0 : r.fp.hv = false → r.g = g
  w0 : r.fp.hv = false → r.wg = []
  go : ∀ l' g', (∀ d ∈ r.fp.rl, lo l' d = lo l d) → ((r.fp.rg || r.fp.hv) = true → g' = g) → ∃ r', F l' g' = some r' ∧ r'.v = r.v ∧ r'.fp = r.fp ∧ r'.wg = r.wg ∧
    (∀ d, d ∉ r.fp.wl → lo r'.l d = lo l' d) ∧ (r.fp.hv = false → r'.g = g') ∧ (∀ d ∈ r.fp.wl, lo r'.l d = lo r.l d) ∧ (r.fp.hv = true → r'.g = r.g)
def Loc (F : Ls → Gs → Option R) : Prop := ∀ l g r, F l g = some r → LocAt F l g r
theorem lput_comm {α : Type} (z : α) : ∀ (l : List α) (n m : Nat) (u v : α), n ≠ m → lput z (lput z l n u) m v = lput z (lput z l m v) n u
  | [], 0, 0, _, _, h => absurd rfl h
  | [], 0, m + 1, _, _, _ => rfl
  | [], n + 1, 0, _, _, _ => rfl
  | [], n + 1, m + 1, u, v, h => by simp only [lput]; rw [lput_comm z [] n m u v (by omega)]
  | _ :: _, 0, 0, _, _, h => absurd rfl h
  | _ :: _, 0, m + 1, _, _, _ => rfl
  | _ :: _, n + 1, 0, _, _, _ => rfl
  | x :: l, n + 1, m + 1, u, v, h => by simp only [lput]; rw [lput_comm z l n m u v (by omega)]
/-- The same frame, however it came to be. -/
structure Seq (s t : St) : Prop where
  e : s.e = t.e
  l : ∀ d, lo s.l d = lo t.l d
  g : s.g = t.g
  w : ∀ x, x ∈ s.w ↔ x ∈ t.w
theorem Seq.refl (s : St) : Seq s s := ⟨rfl, fun _ => rfl, rfl, fun _ => Iff.rfl⟩
theorem Seq.trans {s t u : St} (h : Seq s t) (k : Seq t u) : Seq s u := ⟨h.e.trans k.e, fun d => (h.l d).trans (k.l d), h.g.trans k.g, fun x => (h.w x).trans (k.w x)⟩
theorem Seq.symm {s t : St} (h : Seq s t) : Seq t s := ⟨h.e.symm, fun d => (h.l d).symm, h.g.symm, fun x => (h.w x).symm⟩
theorem mem_addNew {m : List Nat} : ∀ {l : List Nat} {x : Nat}, x ∈ addNew l m ↔ x ∈ l ∨ x ∈ m := by
  induction m with
  | nil => intro l x; simp [addNew]
  | cons y m ih =>
    intro l x
    unfold addNew
    split
    · rename_i hy
      rw [ih]
      obtain ⟨z, hz, he⟩ := List.any_eq_true.1 hy
      simp at he
      subst he
      constructor
      · rintro (h | h)
        · exact .inl h
        · exact .inr (by simp [h])
      · rintro (h | h)
        · exact .inl h
        · rcases List.mem_cons.1 h with rfl | h
          · exact .inl hz
          · exact .inr h
    · rw [ih]
      simp [or_assoc]
section
variable {P : Program} {eqs : TypeId → Option (List SK)} {orc : Nat → Option Orc} {call : Caller} {nt : Nat} {ops : Array Oper}

/-- Two states on which a step does the same. -/
theorem step_seq (hL : ∀ o e, Loc (fun l g => aoper P eqs orc call o (opd e) l g)) {o : Oper} {s t s' : St} {fp : Fp} (hst : Seq s t) (h : stepA P eqs orc call nt ops o s = some (s', fp)) : ∃ t', stepA P eqs orc call nt ops o t = some (t', fp) ∧ Seq s' t' := by
  obtain ⟨se, sl, sg, sw⟩ := s
  obtain ⟨te, tl, tg, tw⟩ := t
  obtain ⟨h1, h2, h3, h4⟩ := hst
  simp only at h1 h2 h3 h4
  subst h1 h3
  unfold stepA at h ⊢
  simp only [Option.bind_eq_some_iff] at h ⊢
  obtain ⟨b, hb, h⟩ := h
  cases b with
  | true =>
    simp only [if_true, Option.bind_eq_some_iff] at h
    obtain ⟨r, hr, e, he, h⟩ := h
    injection h with h
    injection h with e1 e2
    subst e1 e2
    have hl := hL o se sl sg r hr
    obtain ⟨r', q1, q2, q3, q4, q5, q6, q7, q8⟩ := hl.go tl sg (fun d _ => (h2 d).symm) (fun _ => rfl)
    refine ⟨⟨e, r'.l, r'.g, addNew tw r'.wg⟩, ⟨true, hb, ?_⟩, rfl, fun d => ?_, ?_, fun x => ?_⟩
    · simp only [if_true]
      have q1' : aoper P eqs orc call o (opd se) tl sg = some r' := q1
      rw [q1']
      simp [q2, he, q3]
    · by_cases hd : d ∈ r.fp.wl
      · exact (q7 d hd).symm
      · rw [hl.l0 d hd, q5 d hd, h2 d]
    · cases hh : r.fp.hv with
      | true => exact (q8 hh).symm
      | false => rw [hl.g0 hh, q6 hh]
    · simp only [mem_addNew, q4, h4 x]
  | false =>
    simp only [Bool.false_eq_true, if_false, Option.bind_eq_some_iff] at h
    obtain ⟨e, he, h⟩ := h
    injection h with h
    injection h with e1 e2
    subst e1 e2
    exact ⟨⟨e, tl, sg, tw⟩, ⟨false, hb, by simp [he]⟩, rfl, h2, rfl, h4⟩
theorem allSome_congr {α β : Type} {f g : α → Option β} : ∀ {l : List α}, (∀ x ∈ l, f x = g x) → allSome f l = allSome g l
  | [], _ => rfl
  | x :: l, h => by
    simp only [allSome]
    rw [h x (by simp), allSome_congr fun y hy => h y (by simp [hy])]
theorem partsA_congr {ρ ρ' : Operand → Option AV} : ∀ {l : List (Nat × Operand)}, (∀ p ∈ l, ρ p.2 = ρ' p.2) → partsA ρ l = partsA ρ' l
  | [], _ => rfl
  | (i, x) :: l, h => by
    simp only [partsA]
    rw [h (i, x) (by simp), partsA_congr fun y hy => h y (by simp [hy])]
theorem optA_congr {ρ ρ' : Operand → Option AV} {x : Option Operand} (h : ∀ y, x = some y → ρ y = ρ' y) : optA ρ x = optA ρ' x := by
  cases x with
  | none => rfl
  | some y => simp only [optA]; rw [h y rfl]
theorem aoper_congr {o : Oper} {ρ ρ' : Operand → Option AV} (h : ∀ x ∈ o.op.operands, ρ x = ρ' x) (l : Ls) (g : Gs) : aoper P eqs orc call o ρ l g = aoper P eqs orc call o ρ' l g := by
  obtain ⟨dst, op, type, pos, after, guard⟩ := o
  cases op <;> simp only [Op.operands] at h <;> simp only [aoper, aop]
  case pick c a b =>
    have h1 := h c (by simp)
    have h2 := h a (by simp)
    have h3 := h b (by simp)
    have h4 : ∀ t : Bool, ρ (if t = true then a else b) = ρ' (if t = true then a else b) := fun t => by cases t <;> assumption
    rw [h1]
    cases ρ' c with
    | none => rfl
    | some v => cases v <;> simp only [Option.bind_some, h4]
  case build t ps => rw [partsA_congr fun p hp => h p.2 (by simp; exact ⟨p.1, by simpa using hp⟩)]
  case buildSlice t n ps => rw [partsA_congr fun p hp => h p.2 (by simp; exact ⟨p.1, by simpa using hp⟩)]
  case makeFunc fn first cap =>
    cases fn <;> try rfl
    simp only
    rw [allSome_congr (l := first.toList) fun x hx => h x (by simp at hx ⊢; exact .inl hx), allSome_congr (l := cap.toList) fun x hx => h x (by simp at hx ⊢; exact .inr hx)]
  case call c =>
    have hargs : ∀ x ∈ c.args.toList, ρ x = ρ' x := fun x hx => h x (by simp at hx; simp [Call.operands, hx])
    have hget : ∀ (i : Nat) (x : Operand), c.args[i]? = some x → ρ x = ρ' x := fun i x hx => hargs x (by simpa using Array.mem_of_getElem? hx)
    cases hc : c.callee with
    | value f =>
      have hf : ρ f = ρ' f := h f (by simp [Call.operands, hc])
      simp only [hf, allSome_congr hargs]
    | invoke r m => rfl
    | builtin b =>
      simp only [allSome_congr hargs]
      cases b <;> try rfl
      · simp only
        split
        · rename_i t ty s x _ _ h1 h2
          rw [hget _ s h1, hget _ x h2]
        · rfl
      · simp only
        split
        · rename_i t x _ h1
          rw [hget _ x h1]
        · rfl
  case slice t x lo hi mx =>
    cases mx with
    | none =>
      simp only
      rw [h x (by simp), optA_congr (x := lo) fun y hy => h y (by simp [hy]), optA_congr (x := hi) fun y hy => h y (by simp [hy])]
    | some _ => rfl
  all_goals (first | rfl | (simp_all; done))
theorem opd_put {e e' : List AV} {dst : Option Nat} {v : AV} {x : Operand} (he : putA nt e dst v = some e') (h : ∀ d, dst = some d → x ≠ .tmp d) : opd e' x = opd e x := by
  cases dst with
  | none => simp [putA] at he; rw [he]
  | some d =>
    simp only [putA] at he
    split at he
    · injection he with he
      subst he
      cases x with
      | tmp t =>
        have htd : t ≠ d := fun e => h d rfl (by rw [e])
        simp only [opd, lget_lput_ne _ _ _ _ _ htd]
      | _ => rfl
    · cases he
theorem wantA_put {e e' : List AV} {dst : Option Nat} {v : AV} {o : Oper} (he : putA nt e dst v = some e') (h : ∀ d, dst = some d → d ∉ guardT ops o) : wantA ops e' o = wantA ops e o := by
  cases dst with
  | none => simp [putA] at he; rw [he]
  | some d =>
    simp only [putA] at he
    split at he
    · injection he with he
      subst he
      unfold wantA
      cases hg : o.guard with
      | none => rfl
      | some gw =>
        obtain ⟨j, want⟩ := gw
        simp only
        cases hd : (ops[j]?).bind (·.dst) with
        | none => rfl
        | some t =>
          have htd : t ≠ d := fun e => h d rfl (by simp [guardT, hg, hd, e])
          simp only [lget_lput_ne _ _ _ _ _ htd]
    · cases he
theorem meets_false {a b : List Nat} (h : meets a b = false) : ∀ x ∈ a, x ∉ b := fun x hx hb => by
  have : meets a b = true := List.any_eq_true.2 ⟨x, hx, List.any_eq_true.2 ⟨x, hb, by simp⟩⟩
  rw [h] at this
  cases this
theorem apartA_spec {a b : Oper} (h : apartA ops a b = true) : (∀ d, a.dst = some d → d ∉ namesT b ∧ d ∉ guardT ops b ∧ b.dst ≠ some d) ∧ ∀ d, b.dst = some d → d ∉ namesT a ∧ d ∉ guardT ops a := by
  simp only [apartA, Bool.and_eq_true, Bool.not_eq_true'] at h
  refine ⟨fun d hd => ?_, fun d hd => ?_⟩
  · have := meets_false h.1 d (by simp [hd])
    simp only [List.mem_append, not_or] at this
    exact ⟨this.1.1, this.1.2, fun e => this.2 (by simp [e])⟩
  · have := meets_false h.2 d (by simp [hd])
    simpa using this
theorem aoper_put {o : Oper} {e e' : List AV} {dst : Option Nat} {v : AV} (he : putA nt e dst v = some e') (h : ∀ d, dst = some d → d ∉ namesT o) (l : Ls) (g : Gs) : aoper P eqs orc call o (opd e') l g = aoper P eqs orc call o (opd e) l g :=
  aoper_congr (fun x hx => opd_put he fun d hd hxd => h d hd (by
    subst hxd
    simp only [namesT, List.mem_filterMap]
    exact ⟨.tmp d, by simpa using hx, rfl⟩)) l g
theorem putA_comm {e e1 e2 : List AV} {x y : Option Nat} {u v : AV} (h1 : putA nt e x u = some e1) (h2 : putA nt e1 y v = some e2) (h : ∀ d, x = some d → y ≠ some d) : ∃ e1', putA nt e y v = some e1' ∧ putA nt e1' x u = some e2 := by
  cases x with
  | none =>
    simp [putA] at h1
    subst h1
    exact ⟨e2, h2, rfl⟩
  | some d =>
    cases y with
    | none =>
      simp [putA] at h2
      subst h2
      exact ⟨e, rfl, h1⟩
    | some f =>
      simp only [putA] at h1 h2
      split at h1
      · split at h2
        · rename_i hd hf
          injection h1 with h1
          injection h2 with h2
          subst h1 h2
          have hdf : d ≠ f := fun e => h d rfl (by rw [e])
          exact ⟨lput .dead e f v, by simp [putA, hf], by simp [putA, hd, lput_comm _ _ _ _ _ _ hdf]⟩
        · cases h2
      · cases h1
theorem clash_false {p q : Fp} (h : p.clash q = false) : (∀ d ∈ p.wl, d ∉ q.rl) ∧ (∀ d ∈ q.wl, d ∉ p.rl) ∧ (∀ d ∈ p.wl, d ∉ q.wl) ∧ (p.hv = true → q.rg = false ∧ q.hv = false) ∧ (q.hv = true → p.rg = false ∧ p.hv = false) := by
  simp only [Fp.clash, Bool.or_eq_false_iff, Bool.and_eq_false_iff] at h
  obtain ⟨⟨⟨⟨h1, h2⟩, h3⟩, h4⟩, h5⟩ := h
  refine ⟨meets_false h1, meets_false h2, meets_false h3, fun hp => ?_, fun hq => ?_⟩
  · have := h4.resolve_left (by simp [hp])
    simpa using this
  · refine ⟨h5.resolve_left (by simp [hq]), ?_⟩
    rcases h4 with h4 | h4
    · exact h4
    · simp [hq] at h4
/-- One ahead of the other. -/
theorem step_comm (hL : ∀ o e, Loc (fun l g => aoper P eqs orc call o (opd e) l g)) {a b : Oper} {s s1 s2 : St} {p q : Fp} (h1 : stepA P eqs orc call nt ops a s = some (s1, p)) (h2 : stepA P eqs orc call nt ops b s1 = some (s2, q)) (hap : apartA ops a b = true) (hcl : p.clash q = false) :
    ∃ s1' s2', stepA P eqs orc call nt ops b s = some (s1', q) ∧ stepA P eqs orc call nt ops a s1' = some (s2', p) ∧ Seq s2 s2' := by
  obtain ⟨ap1, ap2⟩ := apartA_spec hap
  obtain ⟨c1, c2, c3, c4, c5⟩ := clash_false hcl
  obtain ⟨e, l, g, w⟩ := s
  unfold stepA at h1 h2
  simp only [Option.bind_eq_some_iff] at h1 h2
  obtain ⟨wa, hwa, h1⟩ := h1
  obtain ⟨wb, hwb, h2⟩ := h2
  -- what each does to the temporaries
  have key : ∀ {va vb : AV} {e1 e2 : List AV}, putA nt e a.dst va = some e1 → wantA ops e1 b = some wb → putA nt e1 b.dst vb = some e2 →
      ∃ e1', putA nt e b.dst vb = some e1' ∧ putA nt e1' a.dst va = some e2 ∧ wantA ops e b = some wb ∧ wantA ops e1' a = some wa ∧ (∀ l g, aoper P eqs orc call b (opd e1) l g = aoper P eqs orc call b (opd e) l g) ∧ (∀ l g, aoper P eqs orc call a (opd e1') l g = aoper P eqs orc call a (opd e) l g) := fun {va vb e1 e2} k1 k2 k3 => by
    obtain ⟨e1', q1, q2⟩ := putA_comm k1 k3 fun d hd => (ap1 d hd).2.2
    exact ⟨e1', q1, q2, by rw [← wantA_put k1 fun d hd => (ap1 d hd).2.1]; exact k2, by rw [wantA_put q1 fun d hd => (ap2 d hd).2]; exact hwa, fun l g => aoper_put k1 (fun d hd => (ap1 d hd).1) l g, fun l g => aoper_put q1 (fun d hd => (ap2 d hd).1) l g⟩
  cases wa with
  | false =>
    simp only [Bool.false_eq_true, if_false, Option.bind_eq_some_iff] at h1
    obtain ⟨e1, k1, h1⟩ := h1
    injection h1 with h1
    injection h1 with x1 x2
    subst x1 x2
    cases wb with
    | false =>
      simp only [Bool.false_eq_true, if_false, Option.bind_eq_some_iff] at h2
      obtain ⟨e2, k3, h2⟩ := h2
      injection h2 with h2
      injection h2 with x1 x2
      subst x1 x2
      obtain ⟨e1', q1, q2, q3, q4, _, _⟩ := key k1 hwb k3
      exact ⟨⟨e1', l, g, w⟩, ⟨e2, l, g, w⟩, by simp [stepA, q3, q1], by simp [stepA, q4, q2], Seq.refl _⟩
    | true =>
      simp only [if_true, Option.bind_eq_some_iff] at h2
      obtain ⟨r, hr, e2, k3, h2⟩ := h2
      injection h2 with h2
      injection h2 with x1 x2
      subst x1 x2
      obtain ⟨e1', q1, q2, q3, q4, q5, _⟩ := key k1 hwb k3
      rw [q5] at hr
      exact ⟨⟨e1', r.l, r.g, addNew w r.wg⟩, ⟨e2, r.l, r.g, addNew w r.wg⟩, by simp [stepA, q3, hr, q1], by simp [stepA, q4, q2], Seq.refl _⟩
  | true =>
    simp only [if_true, Option.bind_eq_some_iff] at h1
    obtain ⟨r1, hr1, e1, k1, h1⟩ := h1
    injection h1 with h1
    injection h1 with x1 x2
    subst x1 x2
    cases wb with
    | false =>
      simp only [Bool.false_eq_true, if_false, Option.bind_eq_some_iff] at h2
      obtain ⟨e2, k3, h2⟩ := h2
      injection h2 with h2
      injection h2 with x1 x2
      subst x1 x2
      obtain ⟨e1', q1, q2, q3, q4, _, q6⟩ := key k1 hwb k3
      have hr1' : aoper P eqs orc call a (opd e1') l g = some r1 := by rw [q6]; exact hr1
      exact ⟨⟨e1', l, g, w⟩, ⟨e2, r1.l, r1.g, addNew w r1.wg⟩, by simp [stepA, q3, q1], by simp [stepA, q4, hr1', q2], Seq.refl _⟩
    | true =>
      simp only [if_true, Option.bind_eq_some_iff] at h2
      obtain ⟨r2, hr2, e2, k3, h2⟩ := h2
      injection h2 with h2
      injection h2 with x1 x2
      subst x1 x2
      obtain ⟨e1', q1, q2, q3, q4, q5, q6⟩ := key k1 hwb k3
      rw [q5] at hr2
      have hA := hL a e l g r1 hr1
      have hB := hL b e r1.l r1.g r2 hr2
      obtain ⟨r1', m1, m2, m3, m4, m5, m6, m7, m8⟩ := hB.go l g (fun d hd => (hA.l0 d fun hw => c1 d hw hd).symm) fun hh => by
        cases hp : r1.fp.hv with
        | false => exact (hA.g0 hp).symm
        | true => have := c4 hp; simp [this.1, this.2] at hh
      obtain ⟨r2', n1, n2, n3, n4, n5, n6, n7, n8⟩ := hA.go r1'.l r1'.g (fun d hd => m5 d fun hw => c2 d hw hd) fun hh => by
        cases hq : r2.fp.hv with
        | false => exact m6 hq
        | true => have := c5 hq; simp [this.1, this.2] at hh
      have m1' : aoper P eqs orc call b (opd e) l g = some r1' := m1
      have n1' : aoper P eqs orc call a (opd e1') r1'.l r1'.g = some r2' := by rw [q6]; exact n1
      refine ⟨⟨e1', r1'.l, r1'.g, addNew w r1'.wg⟩, ⟨e2, r2'.l, r2'.g, addNew (addNew w r1'.wg) r2'.wg⟩, by simp [stepA, q3, m1', m2, q1, m3], by simp [stepA, q4, n1', n2, q2, n3], rfl, fun d => ?_, ?_, fun x => ?_⟩
      · show lo r2.l d = lo r2'.l d
        by_cases hd1 : d ∈ r1.fp.wl
        · rw [n7 d hd1, hB.l0 d (c3 d hd1)]
        · rw [n5 d hd1]
          by_cases hd2 : d ∈ r2.fp.wl
          · exact (m7 d hd2).symm
          · rw [hB.l0 d hd2, m5 d hd2, hA.l0 d hd1]
      · show r2.g = r2'.g
        cases hp : r1.fp.hv with
        | true =>
          rw [n8 hp]
          exact hB.g0 (c4 hp).2
        | false =>
          rw [n6 hp]
          cases hq : r2.fp.hv with
          | true => exact (m8 hq).symm
          | false => rw [hB.g0 hq, m6 hq, hA.g0 hp]
      · show x ∈ addNew (addNew w r1.wg) r2.wg ↔ x ∈ addNew (addNew w r1'.wg) r2'.wg
        simp only [mem_addNew, m4, n4]
        constructor <;> rintro ((h | h) | h) <;> simp [h]
end
end Go.AE
