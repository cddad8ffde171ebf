import Derived.Test.YtmomeccgdpidiaaAe27
/-! Whole calls: soundness. -/
namespace Go.AE
open Go.RowKit
section
variable {P : Program} {eqs : TypeId → Option (List SK)} {orc : Nat → Option Orc} {call : Caller} {rounds nt : Nat} {w0 : World} {g0 : Gs} {bl0 bg0 : Bl}
theorem VR.own_out {w : World} {l : Ls} {g : Gs} {bl bg : Bl} {d v n : Nat} {o : Ob} (hd : lo l d = .ob v o) {u : Value} (h : VR w (mkM w l g bl bg) (.ls d v 0 n) u) {g2 : Gs} {bl2 bg2 : Bl} (hb : bl2 0 = bl d) : VR w (mkM w (ownL (some o)) g2 bl2 bg2) (.ls 0 1 0 n) u := by
  cases h with
  | ls _ _ _ _ a cap c0 c1 c2 =>
  obtain ⟨rfl, cs, e, hc, hs⟩ := c2 (by simp [mkM, hd, LO.ver]) (bl d) o.k (by simp [mkM, hd])
  refine .ls 0 1 0 n _ cap c0 (by simp [mkM, ownL, lo, lget, LO.ver]) fun _ b k hbk => ?_
  simp only [mkM, ownL, lo, lget, Option.some.injEq, Prod.mk.injEq] at hbk
  obtain ⟨rfl, rfl⟩ := hbk
  rw [hb]
  exact ⟨rfl, cs, e, hc, hs⟩
/-- What is left of G. -/
theorem trimG_spec {n : Nat} {v : AV} {g : Gs} (hn : n ≤ g.length) (hv : ∀ r ∈ refsV v, r < g.length) (hg : ∀ o ∈ g, ∀ r ∈ refsO o, r < g.length) :
    ∃ m, trimG n v g = g.take m ∧ n ≤ m ∧ (∀ r ∈ refsV v, r < m) ∧ ∀ (r : Nat) (o : Ob), r < m → g[r]? = some o → ∀ x ∈ refsO o, x < m := by
  unfold trimG
  split
  · rename_i hc
    simp only [Bool.and_eq_true, List.all_eq_true, decide_eq_true_eq] at hc
    refine ⟨n, rfl, Nat.le_refl _, hc.1, fun r o hr ho x hx => hc.2 o ?_ x hx⟩
    have : (g.take n)[r]? = some o := take_of hr ho
    exact List.mem_of_getElem? this
  · exact ⟨g.length, by simp, hn, hv, fun r o _ ho x hx => hg o (List.mem_of_getElem? ho) x hx⟩
theorem SR.refs {w : World} {l : Ls} {g : Gs} {bl bg : Bl} (h : SR w l g bl bg) : ∀ o ∈ g, ∀ r ∈ refsO o, r < g.length := fun o ho r hr => by
  obtain ⟨i, hi⟩ := List.getElem?_of_mem ho
  unfold refsO at hr
  split at hr
  · cases hr
  · obtain ⟨y, hy, hr⟩ := List.mem_flatMap.1 hr
    exact (h.og i o hi).1.refs_lt hy hr
/-- A frame's end. -/
theorem doneA_run {s : St} {a : Act} {w : World} {bl bg : Bl} (hc : CR nt w0 g0 bl0 bg0 s a w bl bg) {fn : Func} {v : AV} {g' : Gs} {wr : List Nat} (h : doneA P fn.results.toList g0.length s = some (v, g', wr)) :
    resOk' v ∧ ∃ u bl' bg', (results fn a.tmps).run P w = .ok u w ∧ Stp w0 [] g0 bl0 bg0 w (ownL (ownOf v)) g' bl' bg' wr ∧ VR w (mkM w (ownL (ownOf v)) g' bl' bg') (resV v) u := by
  unfold doneA at h
  simp only [Option.bind_eq_some_iff] at h
  obtain ⟨vs, hvs, h⟩ := h
  obtain ⟨v1, v2⟩ := allSome_spec hvs
  -- the results, as values
  have hus : ∃ us : List Value, us.length = vs.length ∧ (∀ (i : Nat) (r : ResultVar) (u : Value), fn.results[i]? = some r → us[i]? = some u → (oneRes a.tmps r).run P w = .ok u w) ∧ ∀ (i : Nat) (c : AV) (u : Value), vs[i]? = some c → us[i]? = some u → VR w (mkM w s.l s.g bl bg) c u := by
    have key : ∀ (rs : List ResultVar) (vs : List AV), vs.length = rs.length → (∀ (i : Nat) (r : ResultVar) (c : AV), rs[i]? = some r → vs[i]? = some c → resA P s.e s.l s.g r = some c) →
        ∃ us : List Value, us.length = vs.length ∧ (∀ (i : Nat) (r : ResultVar) (u : Value), rs[i]? = some r → us[i]? = some u → (oneRes a.tmps r).run P w = .ok u w) ∧ ∀ (i : Nat) (c : AV) (u : Value), vs[i]? = some c → us[i]? = some u → VR w (mkM w s.l s.g bl bg) c u := by
      intro rs
      induction rs with
      | nil =>
        intro vs hl _
        have : vs = [] := List.eq_nil_of_length_eq_zero hl
        subst this
        exact ⟨[], rfl, by simp, by simp⟩
      | cons r rs ih =>
        intro vs hl hh
        cases vs with
        | nil => simp at hl
        | cons c vs =>
          obtain ⟨u, hu, hur⟩ := resA_run hc (hh 0 r c rfl rfl)
          obtain ⟨us, q1, q2, q3⟩ := ih vs (by simpa using hl) fun i r c hr hcc => hh (i + 1) r c (by simpa using hr) (by simpa using hcc)
          refine ⟨u :: us, by simp [q1], fun i r' u' hr hu' => ?_, fun i c' u' hcc hu' => ?_⟩
          · cases i with
            | zero => simp at hr hu'; subst hr hu'; exact hu
            | succ i => exact q2 i r' u' (by simpa using hr) (by simpa using hu')
          · cases i with
            | zero => simp at hcc hu'; subst hcc hu'; exact hur
            | succ i => exact q3 i c' u' (by simpa using hcc) (by simpa using hu')
    obtain ⟨us, q1, q2, q3⟩ := key fn.results.toList vs v1 v2
    exact ⟨us, q1, fun i r u hr hu => q2 i r u (by simpa using hr) hu, q3⟩
  obtain ⟨us, ul, ur, uv⟩ := hus
  have hres := results_run (fn := fn) (tmps := a.tmps) (us := us) (by rw [ul, v1]; simp) ur
  -- the end of it
  have fin : ∀ {x : X} {bg1 : Bl} {wr : List Nat} {y : AV} {u : Value}, Stp w0 [] g0 bl0 bg0 w x.l x.g bl bg1 wr → VR w (mkM w x.l x.g bl bg1) y u → resOk y → (∀ k fz xs, y ≠ .own k fz xs) →
      ∃ bl' bg', Stp w0 [] g0 bl0 bg0 w (ownL (ownOf y)) (trimG g0.length y x.g) bl' bg' (wr.filter (· < g0.length)) ∧ VR w (mkM w (ownL (ownOf y)) (trimG g0.length y x.g) bl' bg') (resV y) u := fun {x bg1 wr y u} hst hv hk hno => by
    have e1 : ownOf y = none := by cases y <;> first | rfl | exact absurd rfl (hno _ _ _)
    have e2 : resV y = y := by cases y <;> first | rfl | exact absurd rfl (hno _ _ _)
    have hk' : resOk' y := by cases y <;> first | exact hk | trivial
    obtain ⟨m, t1, t2, t3, t4⟩ := trimG_spec (n := g0.length) (v := y) (g := x.g) hst.glen (refsV_res hk' (by rw [e2]; exact hv)) hst.sr.refs
    obtain ⟨b1, b2⟩ := Stp.close hst none 0 (by simp) m t2 t4
    rw [e1, e2, t1]
    refine ⟨_, _, b1, ?_⟩
    have := b2.res hv hk t3
    rwa [renV_id] at this
  have viaX : ∀ {ys : List AV} {x : X} {y : AV}, True → True := fun _ => trivial
  split at h
  · rename_i v0
    simp only [Option.bind_eq_some_iff] at h
    obtain ⟨⟨y, x⟩, ho, h⟩ := h
    injection h with h
    simp only [Prod.mk.injEq] at h
    obtain ⟨rfl, rfl, rfl⟩ := h
    obtain ⟨u, rfl⟩ : ∃ u, us = [u] := by
      cases us with
      | nil => simp at ul
      | cons u us => cases us with
        | nil => exact ⟨u, rfl⟩
        | cons _ _ => simp at ul
    have hv0 := uv 0 v0 u rfl rfl
    have hres' : (results fn a.tmps).run P w = .ok u w := by rw [hres]; rfl
    have viaE : expV false v0 ⟨s.l, s.g, .no⟩ = some (y, x) → resOk' y ∧ ∃ u bl' bg', (results fn a.tmps).run P w = .ok u w ∧ Stp w0 [] g0 bl0 bg0 w (ownL (ownOf y)) (trimG g0.length y x.g) bl' bg' (s.w.filter (· < g0.length)) ∧ VR w (mkM w (ownL (ownOf y)) (trimG g0.length y x.g) bl' bg') (resV y) u := fun he => by
      obtain ⟨bg1, s1, hv, q1, q2, q3⟩ := expV_spec (w := w) (bl := bl) false v0 _ y x he trivial bg u hc.stp.sr hv0
      have hno : ∀ k fz xs, y ≠ .own k fz xs := fun k fz xs e => by subst e; simp [AV.known, AV.isCell] at q1
      have hk : resOk y := by
        have : gclV y := ⟨q1, q3⟩
        cases y <;> first | exact this | (simp [AV.known, AV.isCell] at q1)
      obtain ⟨bl', bg', b1, b2⟩ := fin (x := x) (wr := s.w) (by simpa using hc.stp.trans s1) hv hk hno
      exact ⟨by cases y <;> first | exact hk | trivial, u, bl', bg', hres', b1, b2⟩
    unfold outV at ho
    split at ho
    · rename_i d ver i n
      split at ho
      · rename_i w1 o hlo
        split at ho
        · rename_i hcond
          obtain ⟨rfl, harr, hok, rfl, rfl⟩ := hcond
          injection ho with ho
          simp only [Prod.mk.injEq] at ho
          obtain ⟨rfl, rfl⟩ := ho
          refine ⟨trivial, ?_⟩
          have ho0 : ownOf (.own o.k o.fz o.xs) = some o := by
            obtain ⟨k, arr, fz, ok, xs⟩ := o
            simp only at harr hok
            subst harr hok
            rfl
          obtain ⟨m, t1, t2, t3, t4⟩ := trimG_spec (n := g0.length) (v := .own o.k o.fz o.xs) (g := s.g) hc.stp.glen (by simp [refsV, refsC]) hc.stp.sr.refs
          obtain ⟨b1, b2⟩ := Stp.close hc.stp (some o) d (fun o' ho' => by injection ho' with ho'; subst ho'; exact ⟨hok, _, hlo⟩) m t2 t4
          rw [ho0]
          simp only [t1]
          exact ⟨u, _, _, hres', b1, VR.own_out hlo hv0 rfl⟩
        · exact viaE ho
      · cases ho
    · exact viaE ho
  · rename_i hne
    simp only [Option.bind_eq_some_iff] at h
    obtain ⟨⟨ys, x⟩, ho, h⟩ := h
    injection h with h
    simp only [Prod.mk.injEq] at h
    obtain ⟨rfl, rfl, rfl⟩ := h
    obtain ⟨bg1, s1, l1, y1, q1⟩ := mapS_spec (expV_spec (w := w) (bl := bl) false) vs _ ys x ho (fun _ _ => trivial) bg us hc.stp.sr ul uv
    have hk : resOk (.tup ys) := fun c hcc => by
      obtain ⟨i, hi⟩ := List.getElem?_of_mem hcc
      have hlt := getElem?_lt hi
      have q := q1 i (vs[i]'(by omega)) c (by simp) hi
      exact ⟨q.1, q.2.2⟩
    have hv : VR w (mkM w x.l x.g bl bg1) (.tup ys) (.tuple us.toArray) := .tup ys us.toArray (by simp; omega) fun i c u hcc hu => y1 i c u hcc (by simpa using hu)
    have hne1 : us.toArray.size ≠ 1 := fun e => by
      have : vs.length = 1 := by rw [← ul]; simpa using e
      cases vs with
      | nil => simp at this
      | cons c vs => cases vs with
        | nil => exact hne c rfl
        | cons _ _ => simp at this
    obtain ⟨bl', bg', b1, b2⟩ := fin (x := x) (wr := s.w) (by simpa using hc.stp.trans s1) hv hk (by simp)
    refine ⟨hk, .tuple us.toArray, bl', bg', ?_, b1, b2⟩
    rw [hres, dif_neg hne1]
theorem lget_pad (args : List AV) (k t : Nat) : lget AV.dead (args ++ List.replicate k .dead) t = lget AV.dead args t := by
  rw [lget_eq_getD, lget_eq_getD]
  simp only [List.getD]
  rcases Nat.lt_or_ge t args.length with h | h
  · rw [List.getElem?_append_left h]
  · rw [List.getElem?_append_right h, List.getElem?_eq_none h]
    cases hk : (List.replicate k AV.dead)[t - args.length]? with
    | none => rfl
    | some x =>
      have := List.mem_of_getElem? hk
      rw [List.mem_replicate] at this
      rw [this.2]
      rfl
theorem enter_CR {w : World} {g : Gs} {bl bg : Bl} (h : SR w [] g bl bg) {args : List AV} {vals : Array Value} (ha : ArgsR w (mkM w [] g bl bg) args vals) (hn : args.length ≤ nt) :
    CR nt w g bl bg ⟨args ++ List.replicate (nt - args.length) .dead, [], g, []⟩ { tmps := vals ++ Array.replicate (nt - vals.size) undef, defers := [] } w bl bg := by
  refine ⟨Stp.refl h, by simp; omega, ?_, fun t v hv => ?_, rfl⟩
  · have := ha.1
    simp
    omega
  · simp only at hv ⊢
    rw [lget_pad]
    rcases Nat.lt_or_ge t vals.size with ht | ht
    · rw [Array.getElem?_append_left ht] at hv
      have hlt : t < args.length := by rw [← ha.1]; exact ht
      have : lget AV.dead args t = args[t] := by rw [lget_eq_getD]; simp [List.getD, hlt]
      rw [this]
      exact ha.2 t args[t] v (by simp) hv
    · rw [lget_ge _ _ _ (by rw [← ha.1]; exact ht)]
      exact .dead v
/-- A function's body. -/
theorem bodyA_sound (hE : Env P eqs orc call) (hL : ∀ o e, Loc (fun l g => aoper P eqs orc call o (opd e) l g)) (hm : P.follows .mixedOrders = true) {f : Nat} {fn : Func} (hf : P.funcs[f]? = some fn) {args : List AV} {g : Gs} {v : AV} {g' : Gs} {wr : List Nat}
    (h : bodyA P eqs orc call rounds fn args g = some (v, g', wr)) (w : World) (bl bg : Bl) (vals : Array Value) (hs : SR w [] g bl bg) (ha : ArgsR w (mkM w [] g bl bg) args vals) : resOk' v ∧ Ends P f vals w [] g bl bg (resV v) (ownL (ownOf v)) g' wr := by
  unfold bodyA at h
  split at h
  · cases h
  · rename_i c hb
    split at h
    · rename_i hn
      simp only [Option.bind_eq_some_iff] at h
      obtain ⟨⟨x, s⟩, h1, h⟩ := h
      have hc0 := enter_CR (nt := fn.ntmps) hs ha hn
      have hd : (x = .norm ∨ x = .ret) ∧ doneA P fn.results.toList g.length s = some (v, g', wr) := by
        cases x with
        | norm => exact ⟨.inl rfl, h⟩
        | exit id => cases h
        | ret => exact ⟨.inr rfl, h⟩
      -- the result's shape is told by any end at all
      have key : ∀ a' w' bl' bg', CR fn.ntmps w g bl bg s a' w' bl' bg' → resOk' v ∧ bodyPost P fn (fun e w' => ∃ u bl' bg', e = .returned u ∧ Stp w [] g bl bg w' (ownL (ownOf v)) g' bl' bg' wr ∧ VR w' (mkM w' (ownL (ownOf v)) g' bl' bg') (resV v) u) x.to a' w' := fun a' w' bl' bg' hc => by
        obtain ⟨hk, u, bl2, bg2, r1, r2, r3⟩ := doneA_run hc hd.2
        refine ⟨hk, ?_⟩
        rcases hd.1 with rfl | rfl
        · exact ⟨hc.defers, u, r1, u, bl2, bg2, rfl, r2, r3⟩
        · exact ⟨hc.defers, u, r1, u, bl2, bg2, rfl, r2, r3⟩
      have hwp := codeA_wp (rounds := rounds) hE hL hm c _ x s h1 _ (fun a' w' bl' bg' hc => (key a' w' bl' bg' hc).2) _ w bl bg hc0
      refine ⟨?_, calls_of_wp hf hb hwp⟩
      -- some end there is
      obtain ⟨e, a', w', ⟨hk, _⟩, _⟩ := codeA_wp (rounds := rounds) hE hL hm c _ x s h1 (fun _ _ _ => resOk' v ∧ True) (fun a' w' bl' bg' hc => ⟨(key a' w' bl' bg' hc).1, trivial⟩) _ w bl bg hc0 default [] []
      exact hk
    · cases h
/-- The evaluator tells the truth. -/
theorem aCall_sound (hq : EqsOK P eqs) (hO : OrcOK P orc) (hOE : ∀ f h, orc f = some h → Enters P f) (hN : ∀ (f : Nat) (fn : Func), P.funcs[f]? = some fn → fn.name ≠ "runtime.NumGoroutine") (hm : P.follows .mixedOrders = true)
    (hL : ∀ call : Caller, ∀ o e, Loc (fun l g => aoper P eqs orc call o (opd e) l g)) : ∀ n, CallOK P (aCall P eqs orc rounds n) ∧ ∀ f args g r, aCall P eqs orc rounds n f args g = some r → Enters P f
  | 0 => ⟨fun f args g v g' wr h => (nomatch h), fun f args g r h => (nomatch h)⟩
  | n + 1 => by
    obtain ⟨h1, h2⟩ := aCall_sound hq hO hOE hN hm hL n
    have hE : Env P eqs orc (aCall P eqs orc rounds n) := ⟨hq, hO, h1, hOE, h2⟩
    refine ⟨fun f args g v g' wr h w bl bg vals hs ha => ?_, fun f args g r h => ?_⟩
    · simp only [aCall, Option.bind_eq_some_iff] at h
      obtain ⟨fn, hf, h⟩ := h
      exact bodyA_sound hE (hL _) hm hf h w bl bg vals hs ha
    · simp only [aCall, Option.bind_eq_some_iff] at h
      obtain ⟨fn, hf, h⟩ := h
      refine ⟨fn, hf, ?_, hN f fn hf⟩
      unfold bodyA at h
      split at h
      · cases h
      · rename_i c hb
        rw [hb]; rfl
end
end Go.AE
