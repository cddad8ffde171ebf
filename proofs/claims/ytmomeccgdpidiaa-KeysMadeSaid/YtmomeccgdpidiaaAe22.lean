import Derived.Test.YtmomeccgdpidiaaAe21
/-! Calls. -/
namespace Go.AE
open Go.RowKit
section
variable {P : Program} {w : World} {l : Ls} {g : Gs} {bl bg : Bl}
/-- A result in its caller's frame. -/
def resD (d ver : Nat) : AV → AV
  | .own _ _ xs => .ls d ver 0 xs.length
  | v => v
theorem impA_spec {dst : Option Nat} {v : AV} {l : Ls} {g : Gs} {fp : Fp} {wg : List Nat} {r : R} (h : impA dst v l g fp wg = some r) : ∃ d, r.l = putO l d (ownOf v) ∧ r.g = g ∧ r.wg = wg ∧ r.v = resD d ((lo l d).ver + 1) v := by
  unfold impA at h
  split at h
  · rename_i k fz xs
    simp only [Option.bind_eq_some_iff, newL_eq] at h
    obtain ⟨d, _, h⟩ := h
    injection h with h
    subst h
    exact ⟨d, rfl, rfl, rfl, rfl⟩
  · rename_i hv
    injection h with h
    subst h
    refine ⟨0, ?_, rfl, rfl, ?_⟩
    · cases v <;> first | rfl | exact absurd rfl (hv _ _ _)
    · cases v <;> first | rfl | exact absurd rfl (hv _ _ _)
theorem ownOf_ok {v : AV} {o : Ob} (h : ownOf v = some o) : o.ok = true := by
  cases v <;> simp [ownOf] at h
  subst h
  rfl
theorem res_in {w' : World} {v : AV} {u : Value} {g2 : Gs} {bl2 bg2 : Bl} (hv : VR w' (mkM w' (ownL (ownOf v)) g2 bl2 bg2) (resV v) u) {l : Ls} {g' : Gs} {bl bg' : Bl} {d : Nat} {f : Nat → Nat} {R : Nat → Prop}
    (hmv : Mv w' w' (mkM w' (ownL (ownOf v)) g2 bl2 bg2) (mkM w' (putO l d (ownOf v)) g' (updO bl d (bl2 0) (ownOf v)) bg') f R) (hk : resOk' v) (hr : ∀ r ∈ refsV v, R r) :
    VR w' (mkM w' (putO l d (ownOf v)) g' (updO bl d (bl2 0) (ownOf v)) bg') (resD d ((lo l d).ver + 1) (renV f v)) u := by
  by_cases ho : ∃ k fz xs, v = .own k fz xs
  · obtain ⟨k, fz, xs, rfl⟩ := ho
    exact VR.own_back hv (lo_put_same _ _ _) (upd_same _ _ _)
  · have e1 : resV v = v := by cases v <;> first | rfl | exact absurd ⟨_, _, _, rfl⟩ ho
    have e2 : resOk v := by cases v <;> first | exact hk | exact absurd ⟨_, _, _, rfl⟩ ho
    have e3 : ∀ (a b : Nat), resD a b (renV f v) = renV f v := fun a b => by cases v <;> first | rfl | exact absurd ⟨_, _, _, rfl⟩ ho
    rw [e1] at hv
    rw [e3]
    exact hmv.res hv e2 hr
theorem refsV_res {w : World} {l : Ls} {g : Gs} {bl bg : Bl} {v : AV} {u : Value} (hk : resOk' v) (hv : VR w (mkM w l g bl bg) (resV v) u) : ∀ r ∈ refsV v, r < g.length := by
  intro r hr
  by_cases ho : ∃ k fz xs, v = .own k fz xs
  · obtain ⟨k, fz, xs, rfl⟩ := ho
    simp [refsV, refsC] at hr
  · have e1 : resV v = v := by cases v <;> first | rfl | exact absurd ⟨_, _, _, rfl⟩ ho
    have e2 : resOk v := by cases v <;> first | exact hk | exact absurd ⟨_, _, _, rfl⟩ ho
    rw [e1] at hv
    have one : ∀ (a : AV) (b : Value), gclV a → VR w (mkM w l g bl bg) a b → r ∈ refsV a → r < g.length := fun a b ha hab hr => by
      rw [refsV_cells ha.1, List.mem_flatMap] at hr
      obtain ⟨c, hc, hr⟩ := hr
      obtain ⟨c1, c2, c3⟩ := hab.cells ha.1
      obtain ⟨i, hi⟩ := List.getElem?_of_mem hc
      have hlt := getElem?_lt hi
      exact mkM_ref (refsC_lt (c3 i c (b.cells[i]'(by omega)) hi (by simp)) hr)
    by_cases ht : ∃ cs, v = .tup cs
    · obtain ⟨cs, rfl⟩ := ht
      cases hv with
      | tup _ vs h1 h2 =>
      simp only [refsV, List.mem_flatMap] at hr
      obtain ⟨c, hc, hr⟩ := hr
      obtain ⟨i, hi⟩ := List.getElem?_of_mem hc
      have hlt := getElem?_lt hi
      have hg := e2 c hc
      refine one c (vs[i]'(by omega)) hg (h2 i c _ hi (by simp)) ?_
      cases c <;> first | exact hr | simp [gclV, AV.known, AV.isCell] at hg
    · exact one v u (by cases v <;> first | exact e2 | exact absurd ⟨_, rfl⟩ ht) hv hr
theorem args_out {args as : List AV} {x : X} (h : SR w l g bl bg) {vals : Array Value} (ha : ArgsR w (mkM w l g bl bg) args vals) (hm : mapS (expV false) args ⟨l, g, .no⟩ = some (as, x)) :
    ∃ bg1, Stp w l g bl bg w x.l x.g bl bg1 [] ∧ ArgsR w (mkM w x.l x.g bl bg1) as vals ∧ ∀ a ∈ as, gclV a := by
  obtain ⟨bg1, s1, l1, v1, q1⟩ := mapS_spec (expV_spec (w := w) (bl := bl) false) args _ as x hm (fun _ _ => trivial) bg vals.toList h (by simpa using ha.1) fun i c u hc hu => ha.2 i c u hc (by simpa using hu)
  refine ⟨bg1, s1, ⟨by rw [l1]; exact ha.1, fun i c u hc hu => v1 i c u hc (by simpa using hu)⟩, fun a ham => ?_⟩
  obtain ⟨i, hi⟩ := List.getElem?_of_mem ham
  have hlt := getElem?_lt hi
  have q := q1 i (args[i]'(by omega)) a (by simp) hi
  exact ⟨q.1, q.2.2⟩
theorem renV_none {f : Nat → Nat} {a : AV} (h : gclV a) (hr : refsV a = []) : renV f a = a := by
  rw [renV_known h.1]
  rw [refsV_cells h.1] at hr
  have hc : ∀ c ∈ a.cells, renC f c = c := fun c hc => by
    have hn : refsC c = [] := by
      simp only [List.flatMap_eq_nil_iff] at hr
      exact hr c hc
    cases c with
    | gp r i j => simp [refsC] at hn
    | gs r i j => simp [refsC] at hn
    | fn g fs cs =>
      simp only [refsC, List.flatMap_eq_nil_iff] at hn
      simp only [renC, AV.fn.injEq, true_and]
      conv => rhs; rw [← List.map_id cs]
      refine List.map_congr_left fun d hd => ?_
      have := hn d hd
      cases d <;> first | rfl | simp [refsI] at this
    | _ => rfl
  by_cases ha : ∃ cs, a = .agg cs
  · obtain ⟨cs, rfl⟩ := ha
    simp only [renV1, AV.agg.injEq]
    conv => rhs; rw [← List.map_id cs]
    exact List.map_congr_left hc
  · have hcell : a.isCell = true := by cases a <;> first | exact absurd ⟨_, rfl⟩ ha | exact h.1
    have e : renV1 f a = renC f a := by cases a <;> first | rfl | exact absurd ⟨_, rfl⟩ ha
    rw [e]
    exact hc a (by rw [cell_cells hcell]; simp)
theorem renV_res_none {f : Nat → Nat} {a : AV} (h : resOk' a) (hr : refsV a = []) : renV f a = a := by
  by_cases ho : ∃ k fz xs, a = .own k fz xs
  · obtain ⟨k, fz, xs, rfl⟩ := ho
    rfl
  · have e2 : resOk a := by cases a <;> first | exact h | exact absurd ⟨_, _, _, rfl⟩ ho
    by_cases ht : ∃ cs, a = .tup cs
    · obtain ⟨cs, rfl⟩ := ht
      simp only [renV, AV.tup.injEq]
      conv => rhs; rw [← List.map_id cs]
      refine List.map_congr_left fun c hc => ?_
      have hg := e2 c hc
      rw [← renV_known hg.1]
      refine renV_none hg ?_
      simp only [refsV, List.flatMap_eq_nil_iff] at hr
      have := hr c hc
      cases c <;> first | exact this | simp [gclV, AV.known, AV.isCell] at hg
    · exact renV_none (by cases a <;> first | exact e2 | exact absurd ⟨_, rfl⟩ ht) hr
/-- A call of the program's own functions. -/
theorem acall_own {call : Caller} (hC : CallOK P call) (h : SR w l g bl bg) {f : Nat} {as : List AV} {vals : Array Value} (ha : ArgsR w (mkM w l g bl bg) as vals) (hg : ∀ a ∈ as, gclV a)
    {ids : List Nat} (hids : ids.Nodup) (hin : ∀ a ∈ as, ∀ r ∈ refsV a, r ∈ ids) {gs : Gs} (hp : pick g ids = some gs) (hcl : ∀ o ∈ gs, ∀ r ∈ refsO o, r ∈ ids) {v : AV} {g' : Gs} {wr : List Nat}
    (hc : call f (as.map (renV (idx · ids))) (gs.map (renO (idx · ids))) = some (v, g', wr)) (d : Nat) :
    resOk' v ∧ Ends P f vals w l g bl bg (resD d ((lo l d).ver + 1) (renV (outI ids g.length) v)) (putO l d (ownOf v)) (AE.back (outI ids g.length) g ids g') (wr.map (outI ids g.length)) := by
  obtain ⟨hsr, hmv⟩ := h.sub hids hp hcl
  obtain ⟨hk, this⟩ := hC _ _ _ _ _ _ hc w _ _ vals hsr ⟨by simpa using ha.1, fun i c u hcc hu => by
    simp only [List.getElem?_map, Option.map_eq_some_iff] at hcc
    obtain ⟨a, hai, rfl⟩ := hcc
    have hm := List.mem_of_getElem? hai
    rw [renV_known (hg a hm).1]
    exact hmv.val (ha.2 i a u hai hu) (hg a hm) (hin a hm)⟩
  refine ⟨hk, Calls.mono this fun e w' ⟨u, bl2, bg2, he, hs, hv⟩ => ?_⟩
  obtain ⟨b1, b2⟩ := Stp.back h hids hp hs (fun b p hj => by rw [hs.J] at hj; exact hj) (fun o ho => ownOf_ok ho) hcl d
  exact ⟨u, _, _, he, b1, res_in hv b2 hk (refsV_res hk hv)⟩
theorem Ends.after {w1 : World} {l1 : Ls} {g1 : Gs} {bl1 bg1 : Bl} {a b : List Nat} {f : Nat} {vals : Array Value} {v : AV} {l' : Ls} {g' : Gs} (h : Stp w l g bl bg w1 l1 g1 bl1 bg1 a) (hs : Ends P f vals w1 l1 g1 bl1 bg1 v l' g' b) (hw : w1 = w) :
    Ends P f vals w l g bl bg v l' g' (a ++ b) := by
  subst hw
  exact Calls.mono hs fun e w' ⟨u, bl2, bg2, he, hs, hv⟩ => ⟨u, bl2, bg2, he, h.trans hs, hv⟩
theorem back_nil (f : Nat → Nat) (g : Gs) : AE.back f g [] [] = g := by simp [AE.back]
/-- A call of a function that is told of apart. -/
theorem acall_orc {h' : Orc} {f : Nat} {as : List AV} {v : AV} (hk : resOk' v) (hr : refsV v = []) (hc : ∀ (w : World) (bl bg : Bl) (vals : Array Value), SR w [] [] bl bg → ArgsR w (mkM w [] [] bl bg) as vals → Ends P f vals w [] [] bl bg (resV v) (ownL (ownOf v)) [] [])
    (h : SR w l g bl bg) {vals : Array Value} (ha : ArgsR w (mkM w l g bl bg) as vals) (hg : ∀ a ∈ as, gclV a) (hn : ∀ a ∈ as, refsV a = []) (d : Nat) :
    Ends P f vals w l g bl bg (resD d ((lo l d).ver + 1) v) (putO l d (ownOf v)) g [] := by
  have hp : pick g [] = some [] := rfl
  obtain ⟨hsr, hmv⟩ := h.sub (by simp) hp (by simp)
  have := hc w _ _ vals hsr ⟨ha.1, fun i c u hcc hu => by
    have hm := List.mem_of_getElem? hcc
    have := hmv.val (ha.2 i c u hcc hu) (hg c hm) (by simp [hn c hm])
    rwa [← renV_known (hg c hm).1, renV_none (hg c hm) (hn c hm)] at this⟩
  refine Calls.mono this fun e w' ⟨u, bl2, bg2, he, hs, hv⟩ => ?_
  obtain ⟨b1, b2⟩ := Stp.back h (by simp) hp hs (fun b p hj => by rw [hs.J] at hj; exact hj) (fun o ho => ownOf_ok ho) (by simp) d
  rw [back_nil] at b1 b2
  have := res_in hv b2 hk (by simp [hr])
  rw [renV_res_none hk hr] at this
  exact ⟨u, _, _, he, by simpa using b1, this⟩
theorem putO_putO {l : Ls} {d : Nat} {own : Option Ob} : putO l d own = putO l d own := rfl
theorem acall_sound {orc : Nat → Option Orc} {call : Caller} (hO : OrcOK P orc) (hC : CallOK P call) (h : SR w l g bl bg) {f : Nat} {args : List AV} {dst : Option Nat} {r : R} (hr : acall orc call f args dst l g = some r) {vals : Array Value} (ha : ArgsR w (mkM w l g bl bg) args vals) :
    Ends P f vals w l g bl bg r.v r.l r.g r.wg := by
  unfold acall at hr
  split at hr
  · rename_i ho hof
    obtain ⟨hO1, hO2⟩ := hO f ho hof
    split at hr
    · rename_i he
      split at hr
      · rename_i a as
        simp only [Option.bind_eq_some_iff] at hr
        obtain ⟨⟨as', x⟩, hm, hr⟩ := hr
        split at hr
        · rename_i hall
          simp only [Option.bind_eq_some_iff] at hr
          obtain ⟨⟨a', l', fp⟩, hea, v, hv, hr⟩ := hr
          obtain ⟨d, e1, e2, e3, e4⟩ := impA_spec hr
          obtain ⟨hk, hrf, hcall⟩ := hO2 he a' as' v hv
          have hn : ∀ a ∈ as', refsV a = [] := fun a ha => by simpa using List.all_eq_true.1 hall a ha
          -- the arguments but the first
          obtain ⟨v0, vals', hvs⟩ : ∃ v0 vals', vals.toList = v0 :: vals' := by
            have hl := ha.1
            simp only [List.length_cons] at hl
            cases hq : vals.toList with
            | nil => rw [← Array.length_toList, hq] at hl; simp at hl
            | cons v0 vals' => exact ⟨v0, vals', rfl⟩
          have hget : ∀ i, vals[i]? = (v0 :: vals')[i]? := fun i => by rw [← hvs, Array.getElem?_toList]
          have ha1 : ArgsR w (mkM w l g bl bg) as vals'.toArray := ⟨by
              have hl := ha.1
              rw [← Array.length_toList, hvs] at hl
              simpa using hl, fun i c u hc hu => ha.2 (i + 1) c u (by simpa using hc) (by rw [hget]; simpa using hu)⟩
          have hv0 : VR w (mkM w l g bl bg) a v0 := ha.2 0 a v0 rfl (by rw [hget]; rfl)
          obtain ⟨bg1, s1, a1, g1⟩ := args_out h ha1 hm
          have hv0' := hv0.mono s1.le
          have hsz : ∀ z : AV, vals.size = (z :: as').length := fun z => by
            have h1 := a1.1
            have h2 : vals.size = (v0 :: vals').length := by rw [← hvs, Array.length_toList]
            simp only [List.size_toArray] at h1
            rw [h2, List.length_cons, List.length_cons, h1]
          rw [e1, e2, e3, e4]
          -- without a row
          have plain : ∀ (hl : l' = x.l) (hva : VR w (mkM w x.l x.g bl bg1) a' v0) (hga : gclV a') (hra : refsV a' = []) (hoa : ownOf a' = none) (hrv : resV a' = a'), Ends P f vals w l g bl bg (resD d ((lo l' d).ver + 1) v) (putO l' d (ownOf v)) x.g [] := fun hl hva hga hra hoa hrv => by
            subst hl
            rw [hoa, hrv] at hcall
            have := acall_orc (P := P) (h' := ho) hk hrf hcall s1.sr (vals := vals) ⟨hsz a', fun i c u hc hu => by
              rw [hget] at hu
              cases i with
              | zero => simp at hc hu; subst hc hu; exact hva
              | succ i => exact a1.2 i c u (by simpa using hc) (by simpa using hu)⟩ (fun b hb => (List.mem_cons.1 hb).elim (fun e => e ▸ hga) (g1 b)) (fun b hb => (List.mem_cons.1 hb).elim (fun e => e ▸ hra) (hn b)) d
            exact Ends.after s1 this rfl
          unfold eatA at hea
          split at hea
          · injection hea with hea
            simp only [Prod.mk.injEq] at hea
            obtain ⟨rfl, rfl, rfl⟩ := hea
            exact plain rfl hv0' ⟨rfl, by simp [AV.cells, AV.gclC]⟩ rfl rfl rfl
          · injection hea with hea
            simp only [Prod.mk.injEq] at hea
            obtain ⟨rfl, rfl, rfl⟩ := hea
            exact plain rfl hv0' ⟨rfl, by simp [AV.cells, AV.gclC]⟩ rfl rfl rfl
          · split at hea
            · rename_i dE ver i n _ w0 o0 hlo
              split at hea
              · rename_i hc
                obtain ⟨rfl, harr, hok0, hfz, rfl, rfl⟩ := hc
                injection hea with hea
                simp only [Prod.mk.injEq] at hea
                obtain ⟨rfl, rfl, rfl⟩ := hea
                have ho0 : ownOf (.own o0.k false o0.xs) = some o0 := by
                  obtain ⟨k, arr, fz, ok, xs⟩ := o0
                  simp only [Bool.not_eq_true'] at harr hok0 hfz
                  subst harr hok0 hfz
                  rfl
                rw [ho0] at hcall
                obtain ⟨hsr, hmv⟩ := s1.sr.eat hlo hok0 bg1
                have := hcall w _ _ vals hsr ⟨hsz _, fun i c u hc hu => by
                  rw [hget] at hu
                  cases i with
                  | zero =>
                    simp [resV] at hc hu
                    subst hc hu
                    cases hv0' with
                    | ls _ _ _ _ ad cap c0 c1 c2 =>
                    obtain ⟨rfl, cs, e, hcs, hsz⟩ := c2 (by simp [mkM, hlo, LO.ver]) (bl dE) o0.k (by simp [mkM, hlo])
                    refine .ls 0 1 0 _ _ cap c0 (by simp [mkM, ownL, lo, lget, LO.ver]) fun _ b k hbk => ?_
                    simp only [mkM, ownL, lo, lget, Option.some.injEq, Prod.mk.injEq] at hbk
                    obtain ⟨rfl, rfl⟩ := hbk
                    exact ⟨rfl, cs, e, hcs, hsz⟩
                  | succ i =>
                    have hc' : as'[i]? = some c := by simpa using hc
                    have hm' := List.mem_of_getElem? hc'
                    have := hmv.val (a1.2 i c u hc' (by simpa using hu)) (g1 c hm') (by simp [hn c hm'])
                    rwa [renV1_id] at this⟩
                refine Ends.after s1 ?_ rfl
                refine Calls.mono this fun e w' ⟨u, bl2, bg2, he, hs, hv⟩ => ?_
                obtain ⟨b1, b2⟩ := Stp.eat s1.sr hlo hok0 hs (fun o ho => ownOf_ok ho) d
                have hres := res_in hv b2 hk (by simp [hrf])
                rw [renV_id] at hres
                exact ⟨u, _, _, he, b1, hres⟩
              · cases hea
            · cases hea
          · cases hea
        · cases hr
      · cases hr
    · rename_i he
      simp only [Option.bind_eq_some_iff] at hr
      obtain ⟨⟨as, x⟩, hm, hr⟩ := hr
      split at hr
      · rename_i hall
        simp only [Option.bind_eq_some_iff] at hr
        obtain ⟨v, hv, hr⟩ := hr
        obtain ⟨d, e1, e2, e3, e4⟩ := impA_spec hr
        obtain ⟨hk, hrf, hcall⟩ := hO1 (by simpa using he) as v hv
        have hn : ∀ a ∈ as, refsV a = [] := fun a ha => by simpa using List.all_eq_true.1 hall a ha
        obtain ⟨bg1, s1, a1, g1⟩ := args_out h ha hm
        rw [e1, e2, e3, e4]
        exact Ends.after s1 (acall_orc (P := P) (h' := ho) hk hrf hcall s1.sr a1 g1 hn d) rfl
      · cases hr
  · simp only [Option.bind_eq_some_iff] at hr
    obtain ⟨⟨as, x⟩, hm, gs, hp, hr⟩ := hr
    dsimp only at hp hr
    split at hr
    · rename_i hall
      simp only [Option.bind_eq_some_iff] at hr
      obtain ⟨⟨v, g', wr⟩, hc, hr⟩ := hr
      obtain ⟨bg1, s1, a1, g1⟩ := args_out h ha hm
      obtain ⟨n1, n2, n3⟩ := addNew_spec (m := as.flatMap refsV) (l := []) (by simp)
      obtain ⟨m1, m2⟩ := reach_spec x.g depthG n1
      have hcl : ∀ o ∈ gs, ∀ r ∈ refsO o, r ∈ reach x.g depthG (addNew [] (as.flatMap refsV)) := fun o ho r hro => by
        have := List.all_eq_true.1 (List.all_eq_true.1 hall o ho) r hro
        obtain ⟨y, hy, e⟩ := List.any_eq_true.1 this
        simp at e
        subst e
        exact hy
      have key := fun d => acall_own (P := P) hC s1.sr a1 g1 m1 (fun a ha r hr => m2 r (n3 r (List.mem_flatMap.2 ⟨a, ha, hr⟩))) hp hcl hc d
      have hren : ∀ (f : Nat → Nat), ownOf (renV f v) = ownOf v := fun f => by cases v <;> rfl
      split at hr
      · rename_i hw
        have hr' : ∃ fp, impA dst (renV (outI (reach x.g depthG (addNew [] (as.flatMap refsV))) x.g.length) v) x.l x.g fp [] = some r := by
          split at hr
          · split at hr
            · rename_i hrf
              rw [renV_res_none (key 0).1 (by simpa using hrf)]
              exact ⟨_, hr⟩
            · cases hr
          · exact ⟨_, hr⟩
        obtain ⟨fp', hr⟩ := hr'
        obtain ⟨d, e1, e2, e3, e4⟩ := impA_spec hr
        rw [e1, e2, e3, e4, hren]
        refine Ends.after s1 (Calls.mono (key d).2 fun e w' ⟨u, bl2, bg2, he, hs, hv⟩ => ?_) rfl
        have hw0 : wr = [] := by simpa using hw.1
        subst hw0
        have hbk : AE.back (outI (reach x.g depthG (addNew [] (as.flatMap refsV))) x.g.length) x.g (reach x.g depthG (addNew [] (as.flatMap refsV))) g' = x.g := by
          obtain ⟨hgl, hgp⟩ := pick_spec hp
          have hlt : ∀ r ∈ reach x.g depthG (addNew [] (as.flatMap refsV)), r < x.g.length := fun r hr => by
            obtain ⟨h1, h2⟩ := idx_spec hr
            exact getElem?_lt (hgp _ r (gs[idx r (reach x.g depthG (addNew [] (as.flatMap refsV)))]'(by omega)) h2 (by simp))
          have hlen : g'.length = (reach x.g depthG (addNew [] (as.flatMap refsV))).length := hw.2
          obtain ⟨b1, _⟩ := back_spec (outI (reach x.g depthG (addNew [] (as.flatMap refsV))) x.g.length) m1 hlt (os := g') (by omega)
          apply List.ext_getElem?
          intro r
          rcases Nat.lt_or_ge r x.g.length with hr | hr
          · obtain ⟨o', h1, _, _, h4⟩ := hs.gs r (x.g[r]) (by simp [hr])
            rw [h1, (h4 (by simp)).1]
            simp [hr]
          · rw [List.getElem?_eq_none (by omega), List.getElem?_eq_none (by omega)]
        rw [hbk] at hs hv
        exact ⟨u, _, _, he, by simpa using hs, hv⟩
      · obtain ⟨d, e1, e2, e3, e4⟩ := impA_spec hr
        rw [e1, e2, e3, e4, hren]
        exact Ends.after s1 (key d).2 rfl
    · cases hr
end
end Go.AE
