import Derived.Test.YtmomeccgdpidiaaAe20
/-! A row that is given to a call. -/
namespace Go.AE
open Go.RowKit
section
variable {w : World} {l : Ls} {g : Gs} {bl bg : Bl}
def eatL (w : World) (l : Ls) (g : Gs) (bl bg : Bl) (d : Nat) : Bl := ⟨fun _ => bl d, fun b p => b < w.heap.size → (mkM w l g bl bg).I b p ∨ b = bl d⟩
theorem mkM_nil_gb {w : World} {l : Ls} {bl bg : Bl} {r : Nat} {x : Nat × Nat} (h : (mkM w l [] bl bg).gb r = some x) : False := by simp [mkM] at h
theorem SR.eat (h : SR w l g bl bg) {d v : Nat} {o : Ob} (hd : lo l d = .ob v o) (hok : o.ok = true) (bgS : Bl) :
    SR w (ownL (some o)) [] (eatL w l g bl bg d) bgS ∧ Mv w w (mkM w l g bl bg) (mkM w (ownL (some o)) [] (eatL w l g bl bg d) bgS) id (fun _ => False) := by
  have hmv : Mv w w (mkM w l g bl bg) (mkM w (ownL (some o)) [] (eatL w l g bl bg d) bgS) id (fun _ => False) := by
    refine ⟨fun r x hr => hr.elim, fun r k xs b hr => hr.elim, fun r k xs b hx x hxx => ?_, fun b p hI => ⟨⟨⟨hI.1.1, fun _ => .inl hI⟩, fun e v' o' he hb => ?_, by simp⟩, fun _ hv => hv⟩, fun r k xs b hr => hr.elim⟩
    · simp only [mkM] at hx
      cases ho : g[r]? with
      | none => simp [ho] at hx
      | some o =>
        simp only [ho] at hx
        split at hx
        · rename_i harr
          simp only [Option.some.injEq, Prod.mk.injEq] at hx
          obtain ⟨rfl, rfl, rfl⟩ := hx
          exact (h.og r o ho).1.ok ((h.og r o ho).2.ok harr) x hxx
        · cases hx
    · obtain ⟨_, _, ho⟩ := lo_ownL he
      injection ho with ho
      subst ho
      exact hI.2.1 d v o hd hb
  refine ⟨⟨fun e v' o' he => ?_, by simp, fun e v' r he => ?_, fun e e' v' o' v'' o'' he he' _ => ?_, by simp, by simp, fun b p hb hlt => absurd hlt (by omega), fun e v' o' p he _ => .inr rfl, by simp⟩, hmv⟩
  · obtain ⟨rfl, _, ho⟩ := lo_ownL he
    injection ho with ho
    subst ho
    have hob := h.ol d v o hd
    obtain ⟨cs, e, c1, c2, c3⟩ := hob.mem
    refine ⟨hob.len, hob.ok, cs, e, c1, c2, fun i j x c hx hc => ?_⟩
    obtain ⟨u, hu, hur⟩ := c3 i j x c hx hc
    exact ⟨u, hu, hur.goodT hmv.I (goodC_good (good_cells (hob.ok hok x (List.mem_of_getElem? hx)) c (List.mem_of_getElem? hc)))⟩
  · cases e <;> simp [ownL, lo, lget] at he
  · rw [(lo_ownL he).1, (lo_ownL he').1]
theorem Stp.eat (h : SR w l g bl bg) {dE v0 : Nat} {o0 : Ob} (hd : lo l dE = .ob v0 o0) (hok0 : o0.ok = true) {bgS : Bl} {w' : World} {bl2 bg2 : Bl} {own : Option Ob}
    (hs : Stp w (ownL (some o0)) [] (eatL w l g bl bg dE) bgS w' (ownL own) [] bl2 bg2 []) (hok : ∀ o, own = some o → o.ok = true) (d : Nat) :
    Stp w l g bl bg w' (putO (loPut l dE (.gone v0)) d own) g (updO bl d (bl2 0) own) bg [] ∧
    Mv w' w' (mkM w' (ownL own) [] bl2 bg2) (mkM w' (putO (loPut l dE (.gone v0)) d own) g (updO bl d (bl2 0) own) bg) id (fun _ => False) := by
  have hJ : ∀ b p, bl2.J b p → b < w.heap.size → (mkM w l g bl bg).I b p ∨ b = bl dE := fun b p hj => by rw [hs.J] at hj; exact hj
  have own1S : ∀ b, own1 (ownL (some o0)) (eatL w l g bl bg dE) b → b = bl dE := fun b ⟨e, v, o, he, hb⟩ => hb.symm
  have own2no : ∀ b, ¬ own2 [] bgS b := fun b ⟨r, hr, _⟩ => by simp at hr
  have blkO : ∀ o, own = some o → bl2 0 = bl dE ∨ w.heap.size ≤ bl2 0 := fun o ho => (hs.l1 (bl2 0) ⟨0, 1, o, by rw [ho]; rfl, rfl⟩).imp (own1S _) id
  have same' : ∀ b, b < w.heap.size → b ≠ bl dE → w'.heap[b]? = w.heap[b]? := fun b hb hne => hs.same b hb (fun ho => hne (own1S b ho)) (own2no b)
  have old : ∀ e v o, lo (putO (loPut l dE (.gone v0)) d own) e = .ob v o → (lo l e = .ob v o ∧ e ≠ dE ∧ (own = none ∨ e ≠ d)) ∨ (e = d ∧ own = some o) := fun e v o he => by
    rcases lo_putO he with ⟨h1, h2⟩ | h1
    · by_cases hed : e = dE
      · subst hed; rw [lo_put_same] at h1; cases h1
      · rw [lo_put_ne _ _ hed] at h1
        exact .inl ⟨h1, hed, h2⟩
    · exact .inr h1
  have neE : ∀ e v o, lo l e = .ob v o → e ≠ dE → bl e ≠ bl dE := fun e v o he hne hb => hne (h.dll e dE v o v0 o0 he hd hb)
  have hI2 : ∀ b p, (mkM w' (ownL own) [] bl2 bg2).I b p → (mkM w' (putO (loPut l dE (.gone v0)) d own) g (updO bl d (bl2 0) own) bg).I b p := fun b p hI => by
    have hOpart : ∀ o, own = some o → bl2 0 = b → o.fz = true ∧ p < o.xs.length * o.k := fun o ho hb => hI.2.1 0 1 o (by rw [ho]; rfl) hb
    have ownpart : ∀ (e v : Nat) (o : Ob), e = d ∧ own = some o → updO bl d (bl2 0) own e = b → o.fz = true ∧ p < o.xs.length * o.k := fun e v o ⟨h1, h2⟩ hb => by
      subst h1
      rw [h2] at hb
      simp only [updO, upd_same] at hb
      exact hOpart o h2 hb
    rcases Nat.lt_or_ge b w.heap.size with hb | hb
    · rcases hJ b p hI.1.2 hb with hm | hbe
      · refine ⟨⟨Nat.lt_of_lt_of_le hb hs.size, by rw [updO_J]; exact hm.1.2⟩, fun e v o he hbe => ?_, hm.2.2⟩
        rcases old e v o he with ⟨h1, _, h3⟩ | h1
        · rw [updO_ne _ _ _ _ h3] at hbe
          exact hm.2.1 e v o h1 hbe
        · exact ownpart e v o h1 hbe
      · refine ⟨⟨Nat.lt_of_lt_of_le hb hs.size, by rw [updO_J, hbe]; exact h.jl dE v0 o0 p hd⟩, fun e v o he hbe' => ?_, fun r o hr hbr => ?_⟩
        · rcases old e v o he with ⟨h1, h2, h3⟩ | h1
          · rw [updO_ne _ _ _ _ h3, hbe] at hbe'
            exact absurd hbe' (neE e v o h1 h2)
          · exact ownpart e v o h1 hbe'
        · exact absurd (hbr.trans hbe).symm (h.dlg dE v0 o0 r hd (getElem?_lt hr))
    · refine ⟨⟨hI.1.1, by rw [updO_J]; exact h.jn b p hb⟩, fun e v o he hbe => ?_, fun r o hr hbr => absurd (h.bg_lt (getElem?_lt hr)) (by omega)⟩
      rcases old e v o he with ⟨h1, h2, h3⟩ | h1
      · rw [updO_ne _ _ _ _ h3] at hbe
        exact absurd (h.ol e v o h1).lt (by omega)
      · exact ownpart e v o h1 hbe
  have hmv : Mv w' w' (mkM w' (ownL own) [] bl2 bg2) (mkM w' (putO (loPut l dE (.gone v0)) d own) g (updO bl d (bl2 0) own) bg) id (fun _ => False) :=
    ⟨fun r x hr => hr.elim, fun r k xs b hr => hr.elim, fun r k xs b hx => by simp [mkM] at hx, fun b p hI => ⟨hI2 b p hI, fun _ hv => hv⟩, fun r k xs b hr => hr.elim⟩
  have hsub := (h.eat hd hok0 bgS).2
  have hle : Le w w' (mkM w l g bl bg) (mkM w' (putO (loPut l dE (.gone v0)) d own) g (updO bl d (bl2 0) own) bg) := by
    refine ⟨fun f => ?_, fun f hf x hx => ?_, fun r x hx => hx, fun r k xs b hx => ⟨[], b, by rw [List.append_nil]; exact hx, fun _ => rfl⟩, fun b p hI => ⟨hI2 b p (hs.le.I b p (hsub.I b p hI).1).1, (hs.le.I b p (hsub.I b p hI).1).2⟩, fun b cs e hb => hs.le.size b cs e hb⟩
    · have hv : (lo (loPut l dE (.gone v0)) f).ver = (lo l f).ver := by
        rw [lo_put]
        split
        · rename_i e; subst e; rw [hd]; rfl
        · rfl
      rcases lo_putO_cases (l := loPut l dE (.gone v0)) (d := d) own f with hc | ⟨rfl, o, ho, hlo⟩
      · simp only [mkM, lo_putO_ne hc, hv]; exact Nat.le_refl _
      · show (lo l f).ver ≤ (lo (putO (loPut l dE (.gone v0)) f own) f).ver
        rw [hlo]
        show (lo l f).ver ≤ (lo (loPut l dE (.gone v0)) f).ver + 1
        rw [hv]
        omega
    · have hv : (lo (loPut l dE (.gone v0)) f).ver = (lo l f).ver := by
        rw [lo_put]
        split
        · rename_i e; subst e; rw [hd]; rfl
        · rfl
      rcases lo_putO_cases (l := loPut l dE (.gone v0)) (d := d) own f with hc | ⟨rfl, o, ho, hlo⟩
      · simp only [mkM, lo_putO_ne hc, updO_ne _ _ _ _ hc] at hx ⊢
        by_cases hfE : f = dE
        · subst hfE
          rw [lo_put_same] at hx
          cases hx
        · rw [lo_put_ne _ _ hfE] at hx
          exact hx
      · have hf' : (lo (putO (loPut l dE (.gone v0)) f own) f).ver = (lo l f).ver := hf
        rw [hlo] at hf'
        have hf2 : (lo (loPut l dE (.gone v0)) f).ver + 1 = (lo l f).ver := hf'
        rw [hv] at hf2
        omega
  refine ⟨⟨⟨fun e v o he => ?_, fun r o hr => ⟨(h.og r o hr).1.mono hle (same' _ (h.og r o hr).1.lt fun e => h.dlg dE v0 o0 r hd (getElem?_lt hr) e.symm), (h.og r o hr).2⟩, fun e v r he => ?_, fun e e' v o v' o' he he' hb => ?_, h.dgg, fun e v o r he hr hb => ?_, fun b p hb => ?_, fun e v o p he => ?_, fun r o p hr ha => ?_⟩,
    hle, fun b hb n1 _ => same' b hb fun e => n1 ⟨dE, v0, o0, hd, e.symm⟩, fun r o hr => ⟨o, hr, rfl, rfl, fun _ => ⟨rfl, rfl⟩⟩, fun b ⟨e, v, o, he, hb⟩ => ?_, fun b ho => .inl ho, hs.size, hs.os, hs.tape, hs.output, updO_J _ _ _ _, hs.fz⟩, hmv⟩
  · rcases old e v o he with ⟨h1, h2, h3⟩ | ⟨h1, h2⟩
    · rw [updO_ne _ _ _ _ h3]
      have := h.ol e v o h1
      exact this.mono hle (same' _ this.lt (neE e v o h1 h2))
    · subst h1
      subst h2
      have ho := hs.sr.ol 0 1 o rfl
      simp only [updO, upd_same]
      obtain ⟨cs, e, c1, c2, c3⟩ := ho.mem
      refine ⟨ho.len, ho.ok, cs, e, c1, c2, fun i j x c hx hc => ?_⟩
      obtain ⟨u, hu, hur⟩ := c3 i j x c hx hc
      exact ⟨u, hu, hur.goodT hmv.I (goodC_good (good_cells (ho.ok (hok o rfl) x (List.mem_of_getElem? hx)) c (List.mem_of_getElem? hc)))⟩
  · rcases lo_putO_cases (l := loPut l dE (.gone v0)) (d := d) own e with hc | ⟨rfl, o, ho, hlo⟩
    · rw [lo_putO_ne hc] at he
      by_cases hfE : e = dE
      · subst hfE; rw [lo_put_same] at he; cases he
      · rw [lo_put_ne _ _ hfE] at he
        exact h.fw e v r he
    · rw [hlo] at he; cases he
  · rcases old e v o he with ⟨h1, h2, h3⟩ | ⟨h1, h2⟩ <;> rcases old e' v' o' he' with ⟨g1, g2, g3⟩ | ⟨g1, g2⟩
    · rw [updO_ne _ _ _ _ h3, updO_ne _ _ _ _ g3] at hb
      exact h.dll e e' v o v' o' h1 g1 hb
    · rw [updO_ne _ _ _ _ h3, g1] at hb
      have := blkO o' g2
      rw [g2] at hb
      simp only [updO, upd_same] at hb
      rcases this with q | q
      · exact absurd (hb.trans q) (neE e v o h1 h2)
      · exact absurd (h.ol e v o h1).lt (by omega)
    · rw [updO_ne _ _ _ _ g3, h1] at hb
      have := blkO o h2
      rw [h2] at hb
      simp only [updO, upd_same] at hb
      rcases this with q | q
      · exact absurd (hb.symm.trans q) (neE e' v' o' g1 g2)
      · exact absurd (h.ol e' v' o' g1).lt (by omega)
    · rw [h1, g1]
  · rcases old e v o he with ⟨h1, h2, h3⟩ | ⟨h1, h2⟩
    · rw [updO_ne _ _ _ _ h3] at hb
      exact h.dlg e v o r h1 hr hb
    · rw [h1] at hb
      have := blkO o h2
      rw [h2] at hb
      simp only [updO, upd_same] at hb
      rcases this with q | q
      · exact h.dlg dE v0 o0 r hd hr (q.symm.trans hb)
      · exact absurd (h.bg_lt hr) (by omega)
  · rw [updO_J]
    exact h.jn b p (Nat.le_trans hs.size hb)
  · rw [updO_J]
    rcases old e v o he with ⟨h1, h2, h3⟩ | ⟨h1, h2⟩
    · rw [updO_ne _ _ _ _ h3]
      exact h.jl e v o p h1
    · rw [h1]
      have := blkO o h2
      rw [h2]
      simp only [updO, upd_same]
      rcases this with q | q
      · rw [q]; exact h.jl dE v0 o0 p hd
      · exact h.jn _ _ q
  · rw [updO_J]
    exact h.jg r o p hr ha
  · rcases old e v o he with ⟨h1, h2, h3⟩ | ⟨h1, h2⟩
    · rw [updO_ne _ _ _ _ h3] at hb
      exact .inl ⟨e, v, o, h1, hb⟩
    · have := blkO o h2
      rw [h1, h2] at hb
      simp only [updO, upd_same] at hb
      rcases this with q | q
      · exact .inl ⟨dE, v0, o0, hd, q.symm.trans hb⟩
      · exact .inr (by omega)
end
end Go.AE
