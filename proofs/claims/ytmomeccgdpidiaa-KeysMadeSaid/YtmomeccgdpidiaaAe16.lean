import Derived.Test.YtmomeccgdpidiaaAe15
/-! The operations that are no calls. -/
namespace Go.AE
open Go.RowKit
section
variable {P : Program} {eqs : TypeId → Option (List SK)} {w : World} {l : Ls} {g : Gs} {bl bg : Bl}

/-- What is done by an operation of a region. -/
def DoesN (P : Program) (w : World) (l : Ls) (g : Gs) (bl bg : Bl) (s : Sem Next) (v : AV) (l' : Ls) (g' : Gs) (wg : List Nat) : Prop :=
  ∃ n w' bl' bg', s.run P w = .ok n w' ∧ Stp w l g bl bg w' l' g' bl' bg' wg ∧ ((∃ u, n = .value u ∧ VR w' (mkM w' l' g' bl' bg') v u) ∨ (n = .skip ∧ v = .tup []))
theorem Does.toN {s : Sem Value} {v : AV} {l' : Ls} {g' : Gs} {wg : List Nat} (h : Does P w l g bl bg s v l' g' wg) : DoesN P w l g bl bg (do pure (.value (← s))) v l' g' wg := by
  obtain ⟨u, w', bl', bg', h1, h2, h3⟩ := h
  exact ⟨.value u, w', bl', bg', by simp [h1], h2, .inl ⟨u, rfl, h3⟩⟩
theorem partsA_spec {m : Mp} {ρA : Operand → Option AV} {ρ : Operand → Value} (hρ : ∀ x a, ρA x = some a → VR w m a (ρ x)) : ∀ {ps : List (Nat × Operand)} {qs : List (Nat × AV)}, partsA ρA ps = some qs → PsR w m qs (ps.map fun p => (p.1, ρ p.2))
  | [], qs, h => by
    simp [partsA] at h
    subst h
    exact ⟨rfl, by simp⟩
  | (i, x) :: ps, qs, h => by
    simp only [partsA, Option.bind_eq_some_iff] at h
    obtain ⟨v, hv, r, hr, h⟩ := h
    injection h with h
    subst h
    obtain ⟨h1, h2⟩ := partsA_spec hρ hr
    refine ⟨by simp [h1], fun j p u hp hu => ?_⟩
    cases j with
    | zero =>
      simp at hp hu
      subst hp hu
      exact ⟨rfl, hρ x v hv⟩
    | succ j => exact h2 j p u (by simpa using hp) (by simpa using hu)
theorem parts_toList (ρ : Operand → Value) (ps : Array (Nat × Operand)) : (ps.map fun (i, x) => (i, ρ x)).toList = ps.toList.map fun p => (p.1, ρ p.2) := by simp
theorem optA_spec {m : Mp} {ρA : Operand → Option AV} {ρ : Operand → Value} (hρ : ∀ x a, ρA x = some a → VR w m a (ρ x)) {x : Option Operand} {y : Option AV} (h : optA ρA x = some y) : OR w m y (x.map ρ) := by
  cases x with
  | none =>
    simp [optA] at h
    subst h
    trivial
  | some x =>
    simp only [optA, Option.bind_eq_some_iff] at h
    obtain ⟨v, hv, h⟩ := h
    injection h with h
    subst h
    exact hρ x v hv
theorem allSome_VR {m : Mp} {ρA : Operand → Option AV} {ρ : Operand → Value} (hρ : ∀ x a, ρA x = some a → VR w m a (ρ x)) {xs : List Operand} {ys : List AV} (h : allSome ρA xs = some ys) : ys.length = xs.length ∧ ∀ (i : Nat) (c : AV) (u : Value), ys[i]? = some c → (xs.map ρ)[i]? = some u → VR w m c u := by
  obtain ⟨h1, h2⟩ := allSome_spec h
  refine ⟨h1, fun i c u hc hu => ?_⟩
  simp only [List.getElem?_map, Option.map_eq_some_iff] at hu
  obtain ⟨x, hx, rfl⟩ := hu
  exact hρ x c (h2 i x c hx hc)
theorem run_builtinCall (b : Builtin) (c : Call) (hc : c.callee = .builtin b) (ρ : Operand → Value) (ty : TypeId) : (do let d ← resolve ρ c ty; invoke d.target d.args : Sem Next) = builtin b c.argTypes ty (c.args.map fun | .const _ => true | _ => false) (c.args.map ρ) := by
  unfold resolve
  simp only [hc, pure_bind]
  rfl
theorem array2 {α : Type} {a : Array α} {x y : α} (h : a.size = 2) (h0 : a[0]? = some x) (h1 : a[1]? = some y) : a = #[x, y] := by
  apply Array.ext
  · simpa using h
  · intro i hi hj
    have : i = 0 ∨ i = 1 := by simp at hj; omega
    rcases this with rfl | rfl
    · simpa [Array.getElem?_eq_getElem hi] using h0
    · simpa [Array.getElem?_eq_getElem hi] using h1
theorem ret1_spec {v : Option AV} {l : Ls} {g : Gs} {r : R} (h : ret1 v l g = some r) : ∃ x, v = some x ∧ r = ⟨x, l, g, .no, []⟩ := by
  simp only [ret1, Option.bind_eq_some_iff] at h
  obtain ⟨x, hx, h⟩ := h
  injection h with h
  exact ⟨x, hx, h.symm⟩
theorem ret2_spec {v : Option (AV × Fp)} {l : Ls} {g : Gs} {r : R} (h : ret2 v l g = some r) : ∃ x fp, v = some (x, fp) ∧ r = ⟨x, l, g, fp, []⟩ := by
  simp only [ret2, Option.bind_eq_some_iff] at h
  obtain ⟨⟨x, fp⟩, hx, h⟩ := h
  injection h with h
  exact ⟨x, fp, hx, h.symm⟩
theorem new1_spec {dst : Option Nat} {l : Ls} {g : Gs} {o : Ob} {mk : Nat → Nat → AV} {r : R} (h : new1 dst l g o mk = some r) : ∃ d, dst = some d ∧ r = ⟨mk d ((lo l d).ver + 1), loPut l d (.ob ((lo l d).ver + 1) o), g, .w d, []⟩ := by
  simp only [new1, Option.bind_eq_some_iff, newL_eq] at h
  obtain ⟨d, hd, h⟩ := h
  injection h with h
  exact ⟨d, hd, h.symm⟩
theorem storeA_tup {s : Nat} {a v : AV} {r : R} (hr : storeA l g s a v = some r) : r.v = .tup [] := by
  unfold storeA at hr
  split at hr
  · split at hr
    · split at hr
      · split at hr
        · simp only [Option.bind_eq_some_iff] at hr
          obtain ⟨_, _, hr⟩ := hr
          injection hr with hr
          subst hr; rfl
        · cases hr
      · split at hr
        · simp only [Option.bind_eq_some_iff] at hr
          obtain ⟨_, _, _, _, _, _, hr⟩ := hr
          injection hr with hr
          subst hr; rfl
        · cases hr
      · cases hr
    · simp only [Option.bind_eq_some_iff] at hr
      obtain ⟨_, _, _, _, _, _, hr⟩ := hr
      injection hr with hr
      subst hr; rfl
    · cases hr
  · cases hr
theorem store_next {s : Sem Unit} {v : AV} {l' : Ls} {g' : Gs} {wg : List Nat} (hv : v = .tup []) (h : Does P w l g bl bg (do s; pure (.tuple #[])) v l' g' wg) : DoesN P w l g bl bg (do s; pure .skip) v l' g' wg := by
  obtain ⟨u, w', bl', bg', h1, h2, h3⟩ := h
  cases h4 : s.run P w with
  | halt z w2 => simp [h4] at h1
  | ok z w2 =>
    simp [h4] at h1
    obtain ⟨rfl, rfl⟩ := h1
    exact ⟨.skip, w2, bl', bg', by simp [h4], h2, .inr ⟨rfl, hv⟩⟩
set_option maxHeartbeats 4000000 in
theorem aop_sound (hE : EqsOK P eqs) (h : SR w l g bl bg) {o : Oper} {ρA : Operand → Option AV} {ρ : Operand → Value} (hρ : ∀ x a, ρA x = some a → VR w (mkM w l g bl bg) a (ρ x)) {r : R} (hr : aop P eqs o ρA l g = some r) :
    DoesN P w l g bl bg (execOp ρ o) r.v r.l r.g r.wg := by
  obtain ⟨dst, op, type, pos, after, guard⟩ := o
  have val : ∀ {x : AV} {u : Value}, VR w (mkM w l g bl bg) x u → r = ⟨x, l, g, .no, []⟩ → DoesN P w l g bl bg (pure (.value u)) r.v r.l r.g r.wg := fun {x u} hx e => by
    subst e
    exact ⟨.value u, w, bl, bg, rfl, Stp.refl h, .inl ⟨u, rfl, hx⟩⟩
  have pur : ∀ {x : AV} {s : Sem Value} {fp : Fp}, (∃ u, s.run P w = .ok u w ∧ VR w (mkM w l g bl bg) x u) → r = ⟨x, l, g, fp, []⟩ → DoesN P w l g bl bg (do pure (.value (← s))) r.v r.l r.g r.wg := fun {x s fp} hx e => by
    subst e
    exact (Does.ofRun h hx).toN
  cases op <;> simp only [aop] at hr <;> try (cases hr; done)
  case move x =>
    obtain ⟨y, hy, e⟩ := ret1_spec hr
    exact val (hρ x y hy) e
  case assign x =>
    obtain ⟨y, hy, e⟩ := ret1_spec hr
    exact val (hρ x y hy) e
  case pick c a b =>
    simp only [Option.bind_eq_some_iff] at hr
    obtain ⟨cv, hcv, hr⟩ := hr
    split at hr
    · rename_i t
      obtain ⟨y, hy, e⟩ := ret1_spec hr
      have hc := (hρ c _ hcv).boolI
      have hv := hρ _ y hy
      subst e
      refine ⟨.value (ρ (if t then a else b)), w, bl, bg, ?_, Stp.refl h, .inl ⟨_, rfl, hv⟩⟩
      simp only [execOp, hc, asBool]
      cases t <;> rfl
    · cases hr
  case alloc t =>
    simp only [Option.bind_eq_some_iff] at hr
    obtain ⟨z, hz, hr⟩ := hr
    split at hr
    · cases hr
    · rename_i hk
      obtain ⟨d, hd, e⟩ := new1_spec hr
      subst e
      exact (alloc_does h hz (by simpa using hk) d).toN
  case box t x =>
    simp only [Option.bind_eq_some_iff] at hr
    obtain ⟨z, hz, hr⟩ := hr
    split at hr
    · rename_i hk
      obtain ⟨d, hd, e⟩ := new1_spec hr
      subst e
      exact (newVar_does h t hk (hρ x z hz) d).toN
    · cases hr
  case build t ps =>
    simp only [Option.bind_eq_some_iff] at hr
    obtain ⟨qs, hqs, hr⟩ := hr
    obtain ⟨y, hy, e⟩ := ret1_spec hr
    exact pur (buildA_run hy (us := ps.map fun (i, x) => (i, ρ x)) (by rw [parts_toList]; exact partsA_spec hρ hqs)) e
  case buildSlice t n ps =>
    split at hr
    · rename_i e' ht
      simp only [Option.bind_eq_some_iff] at hr
      obtain ⟨qs, hqs, z, hz, k, hk, hr⟩ := hr
      split at hr
      · rename_i hc
        simp only [Option.bind_eq_some_iff] at hr
        obtain ⟨xs, hxs, hr⟩ := hr
        obtain ⟨d, hd, e⟩ := new1_spec hr
        subst e
        exact (buildSlice_does h ht hz hk hc.1 hc.2.1 hc.2.2.1 hc.2.2.2 (us := ps.map fun (i, x) => (i, ρ x)) (by rw [parts_toList]; exact partsA_spec hρ hqs) hxs d).toN
      · cases hr
    · cases hr
  case load t a =>
    simp only [Option.bind_eq_some_iff] at hr
    obtain ⟨s, hs, ag, hag, av, hav, hr⟩ := hr
    obtain ⟨y, fp, hy, e⟩ := ret2_spec hr
    exact pur (loadA_run h hs hag (hρ a av hav) hy) e
  case store t a x =>
    simp only [Option.bind_eq_some_iff] at hr
    obtain ⟨s, hs, av, hav, xv, hxv, hr⟩ := hr
    exact store_next (storeA_tup hr) (storeA_does (P := P) h hs hr (hρ a av hav) (hρ x xv hxv))
  case nilCheck x =>
    simp only [Option.bind_eq_some_iff] at hr
    obtain ⟨y, hy, hr⟩ := hr
    have hv := hρ x y hy
    have fin : ∀ {u : Value}, ρ x = u → (execOp ρ ⟨dst, .nilCheck x, type, pos, after, guard⟩ = pure (.value u)) → some (⟨y, l, g, .no, []⟩ : R) = some r → DoesN P w l g bl bg (execOp ρ ⟨dst, .nilCheck x, type, pos, after, guard⟩) r.v r.l r.g r.wg := fun {u} h1 h2 h3 => by
      injection h3 with h3
      rw [h2]
      exact val (h1 ▸ hv) h3.symm
    split at hr
    · cases hv' : ρ x <;> rw [hv'] at hv <;> cases hv
      exact fin hv' (by simp only [execOp, hv']) hr
    · cases hv' : ρ x <;> rw [hv'] at hv <;> cases hv
      exact fin hv' (by simp only [execOp, hv']) hr
    · cases hv' : ρ x <;> rw [hv'] at hv <;> cases hv
      exact fin hv' (by simp only [execOp, hv']) hr
    · cases hv' : ρ x <;> rw [hv'] at hv <;> cases hv
      exact fin hv' (by simp only [execOp, hv']) hr
    · cases hr
  case binOp op t x y yt =>
    simp only [Option.bind_eq_some_iff] at hr
    obtain ⟨a, ha, b, hb, hr⟩ := hr
    obtain ⟨v, hv, e⟩ := ret1_spec hr
    exact pur (binA_run hE hv (hρ x a ha) (hρ y b hb) x y) e
  case unOp op t x =>
    simp only [Option.bind_eq_some_iff] at hr
    obtain ⟨a, ha, hr⟩ := hr
    obtain ⟨v, hv, e⟩ := ret1_spec hr
    exact pur (unA_run hv (hρ x a ha)) e
  case convert s d x =>
    simp only [Option.bind_eq_some_iff] at hr
    obtain ⟨a, ha, hr⟩ := hr
    obtain ⟨v, fp, hv, e⟩ := ret2_spec hr
    exact pur (convA_run h hv (hρ x a ha)) e
  case makeFunc fn first cap =>
    cases fn <;> dsimp only at hr <;> try (cases hr; done)
    rename_i f
    simp only [Option.bind_eq_some_iff] at hr
    obtain ⟨fs, hfs, cs, hcs, hr⟩ := hr
    split at hr
    · rename_i hc
      injection hr with hr
      obtain ⟨a1, a2⟩ := allSome_VR hρ hfs
      obtain ⟨b1, b2⟩ := allSome_VR hρ hcs
      refine pur (s := Instr.makeFunc (.func f) (first.map ρ) (cap.map ρ)) (x := .fn f fs cs) ⟨_, rfl, .fn f fs cs _ _ (by simp [a1]) (by simp [b1]) (List.all_eq_true.1 hc.2) (fun i c u hc hu => a2 i c u hc (by simpa using hu)) fun i c u hc hu => b2 i c u hc (by simpa using hu)⟩ hr.symm
    · cases hr
  case makeSlice t n c =>
    split at hr
    · rename_i e' ht
      simp only [Option.bind_eq_some_iff] at hr
      obtain ⟨nv, hnv, cv, hcv, n', hn', c', hc', z, hz, k, hk, by_, hby, hr⟩ := hr
      split at hr
      · rename_i hc
        obtain ⟨d, hd, e⟩ := new1_spec hr
        subst e
        obtain ⟨q1, q2, q3, q4, q5, q6, q7⟩ := hc
        exact (makeSlice_does h ht hz hk hby q1 q2 q3 q4 q5 q6 q7 hn' (hρ n nv hnv) hc' (hρ c cv hcv) d).toN
      · cases hr
    · cases hr
  case slice t x a b c =>
    split at hr
    · simp only [Option.bind_eq_some_iff] at hr
      obtain ⟨xv, hxv, av, hav, bv, hbv, hr⟩ := hr
      obtain ⟨v, fp, hv, e⟩ := ret2_spec hr
      exact pur (sliceA_run h hv (hρ x xv hxv) (optA_spec hρ hav) (optA_spec hρ hbv)) e
    · cases hr
  case fieldAddr t x f =>
    simp only [Option.bind_eq_some_iff] at hr
    obtain ⟨a, ha, hr⟩ := hr
    obtain ⟨v, hv, e⟩ := ret1_spec hr
    exact pur (fieldAddrA_run hv (hρ x a ha)) e
  case field t x f =>
    simp only [Option.bind_eq_some_iff] at hr
    obtain ⟨a, ha, hr⟩ := hr
    obtain ⟨v, hv, e⟩ := ret1_spec hr
    exact pur (fieldA_run hv (hρ x a ha)) e
  case indexAddr t x i =>
    simp only [Option.bind_eq_some_iff] at hr
    obtain ⟨a, ha, b, hb, hr⟩ := hr
    obtain ⟨v, fp, hv, e⟩ := ret2_spec hr
    exact pur (indexAddrA_run h hv (hρ x a ha) (hρ i b hb)) e
  case index t x i =>
    simp only [Option.bind_eq_some_iff] at hr
    obtain ⟨a, ha, b, hb, hr⟩ := hr
    obtain ⟨v, hv, e⟩ := ret1_spec hr
    exact pur (indexA_run hv (hρ x a ha) (hρ i b hb)) e
  case extract x i =>
    simp only [Option.bind_eq_some_iff] at hr
    obtain ⟨a, ha, hr⟩ := hr
    split at hr
    · rename_i vs
      obtain ⟨v, hv, e⟩ := ret1_spec hr
      have hx := hρ x _ ha
      refine pur (s := Instr.extract (ρ x) i) ?_ e
      generalize ρ x = u at hx
      cases hx with
      | tup _ us h1 h2 =>
      have hlt := getElem?_lt hv
      have hlt' : i < us.size := by omega
      exact ⟨us[i], by simp [Instr.extract, hlt'], h2 i v _ hv (by simp [hlt'])⟩
    · cases hr
  case call c =>
    have hcall : ∀ b, c.callee = .builtin b → execOp ρ ⟨dst, .call c, type, pos, after, guard⟩ = builtin b c.argTypes type (c.args.map fun | .const _ => true | _ => false) (c.args.map ρ) := fun b hb => run_builtinCall b c hb ρ type
    split at hr
    · rename_i hb
      rw [hcall _ hb]
      split at hr
      · rename_i t x ht hx
        simp only [Option.bind_eq_some_iff] at hr
        obtain ⟨a, ha, hr⟩ := hr
        obtain ⟨v, hv, e⟩ := ret1_spec hr
        exact pur (lenA_run hv (hρ x a ha) c.argTypes type (c.args.map ρ) ht (by simp [hx])) e
      · cases hr
    · rename_i hb
      rw [hcall _ hb]
      split at hr
      · rename_i t ty s x ht hty hs hx
        split at hr
        · rename_i hsz
          simp only [Option.bind_eq_some_iff] at hr
          obtain ⟨sv, hsv, xv, hxv, hr⟩ := hr
          have e1 := array2 hsz.1 ht hty
          have e2 := array2 hsz.2 hs hx
          have := (appendA_does (P := P) (rt := type) h hr (hρ s sv hsv) (hρ x xv hxv)).toN
          simp only [builtin]
          rw [e1, e2]
          simpa using this
        · cases hr
      · cases hr
    · rename_i hb
      rw [hcall _ hb]
      split at hr
      · rename_i v vs hvs
        obtain ⟨y, hy, e⟩ := ret1_spec hr
        obtain ⟨a1, a2⟩ := allSome_VR hρ hvs
        refine pur (s := Builtin.max_ c.argTypes type (c.args.map ρ)) ?_ e
        cases hl : c.args.toList.map ρ with
        | nil => rw [← List.length_map (f := ρ), hl] at a1; simp at a1
        | cons u us =>
          rw [hl] at a2
          have hlen : us.length = vs.length := by rw [← List.length_map (f := ρ), hl] at a1; simpa using a1.symm
          obtain ⟨u', h1, h2⟩ := max_run (P := P) vs v y hy us u hlen (a2 0 v u rfl rfl) fun i p q hp hq => a2 (i + 1) p q (by simpa using hp) (by simpa using hq)
          exact ⟨u', by simp only [Builtin.max_, Array.toList_map, hl]; exact h1, h2⟩
      · cases hr
    · rename_i hb
      rw [hcall _ hb]
      split at hr
      · rename_i v vs hvs
        obtain ⟨y, hy, e⟩ := ret1_spec hr
        obtain ⟨a1, a2⟩ := allSome_VR hρ hvs
        refine pur (s := Builtin.min_ c.argTypes type (c.args.map ρ)) ?_ e
        cases hl : c.args.toList.map ρ with
        | nil => rw [← List.length_map (f := ρ), hl] at a1; simp at a1
        | cons u us =>
          rw [hl] at a2
          have hlen : us.length = vs.length := by rw [← List.length_map (f := ρ), hl] at a1; simpa using a1.symm
          obtain ⟨u', h1, h2⟩ := min_run (P := P) vs v y hy us u hlen (a2 0 v u rfl rfl) fun i p q hp hq => a2 (i + 1) p q (by simpa using hp) (by simpa using hq)
          exact ⟨u', by simp only [Builtin.min_, Array.toList_map, hl]; exact h1, h2⟩
      · cases hr
    · cases hr
end
end Go.AE
