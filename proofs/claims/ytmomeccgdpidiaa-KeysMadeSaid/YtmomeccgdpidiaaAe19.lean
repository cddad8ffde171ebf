import Derived.Test.YtmomeccgdpidiaaAe18
/-! A call: what comes back. -/
namespace Go.AE
open Go.RowKit

/-- A frame's rows that are left over: none, or the one that is handed back. -/
def ownL : Option Ob → Ls
  | none => []
  | some o => [.ob 1 o]
def putO (l : Ls) (d : Nat) : Option Ob → Ls
  | none => l
  | some o => loPut l d (.ob ((lo l d).ver + 1) o)
def updO (bl : Bl) (d b : Nat) : Option Ob → Bl
  | none => bl
  | some _ => upd bl d b
theorem lo_ownL {own : Option Ob} {d v : Nat} {o : Ob} (h : lo (ownL own) d = .ob v o) : d = 0 ∧ v = 1 ∧ own = some o := by
  cases own with
  | none => simp [ownL, lo, lget] at h
  | some o' =>
    cases d with
    | zero => simp [ownL, lo, lget] at h; exact ⟨rfl, h.1.symm, by rw [h.2]⟩
    | succ d => simp [ownL, lo, lget] at h
theorem lo_putO {l : Ls} {d : Nat} {own : Option Ob} {e v : Nat} {o : Ob} (h : lo (putO l d own) e = .ob v o) : (lo l e = .ob v o ∧ (own = none ∨ e ≠ d)) ∨ (e = d ∧ own = some o) := by
  cases own with
  | none => exact .inl ⟨h, .inl rfl⟩
  | some o' =>
    simp only [putO] at h
    by_cases hed : e = d
    · subst hed
      rw [lo_put_same] at h
      injection h with _ h
      exact .inr ⟨rfl, by rw [h]⟩
    · rw [lo_put_ne _ _ hed] at h
      exact .inl ⟨h, .inr hed⟩
theorem updO_ne (bl : Bl) (d b : Nat) (own : Option Ob) {e : Nat} (h : own = none ∨ e ≠ d) : updO bl d b own e = bl e := by
  cases own with
  | none => rfl
  | some o => exact upd_ne _ _ (h.resolve_left (by simp))
theorem updO_J (bl : Bl) (d b : Nat) (own : Option Ob) : (updO bl d b own).J = bl.J := by cases own <;> rfl
theorem lo_putO_ne {l : Ls} {d : Nat} {own : Option Ob} {e : Nat} (h : own = none ∨ e ≠ d) : lo (putO l d own) e = lo l e := by
  cases own with
  | none => rfl
  | some o => exact lo_put_ne _ _ (h.resolve_left (by simp))
theorem lo_putO_cases {l : Ls} {d : Nat} (own : Option Ob) (e : Nat) : (own = none ∨ e ≠ d) ∨ (e = d ∧ ∃ o, own = some o ∧ lo (putO l d own) e = .ob ((lo l d).ver + 1) o) := by
  cases own with
  | none => exact .inl (.inl rfl)
  | some o =>
    by_cases hed : e = d
    · subst hed; exact .inr ⟨rfl, o, rfl, lo_put_same _ _ _⟩
    · exact .inl (.inr hed)
theorem renC_back {ids : List Nat} {n : Nat} {c : AV} (h : ∀ r ∈ refsC c, r ∈ ids) : renC (outI ids n) (renC (idx · ids) c) = c := by
  have one : ∀ r, r ∈ ids → outI ids n (idx r ids) = r := fun r hr => outI_lt (idx_spec hr).2
  cases c with
  | gp r i j => simp only [renC, one r (h r (by simp [refsC]))]
  | gs r i j => simp only [renC, one r (h r (by simp [refsC]))]
  | fn g fs cs =>
    simp only [renC, List.map_map, AV.fn.injEq, true_and]
    conv => rhs; rw [← List.map_id cs]
    refine List.map_congr_left fun d hd => ?_
    have hr : ∀ r ∈ refsI d, r ∈ ids := fun r hr => h r (List.mem_flatMap.2 ⟨d, hd, hr⟩)
    cases d with
    | gp r i j => simp only [Function.comp, renC1, one r (hr r (by simp [refsI])), id]
    | gs r i j => simp only [Function.comp, renC1, one r (hr r (by simp [refsI])), id]
    | _ => rfl
  | _ => rfl
theorem renV1_back {ids : List Nat} {n : Nat} {a : AV} (hk : a.known = true) (h : ∀ r ∈ refsV a, r ∈ ids) : renV1 (outI ids n) (renV1 (idx · ids) a) = a := by
  rw [refsV_cells hk] at h
  by_cases ha : ∃ cs, a = .agg cs
  · obtain ⟨cs, rfl⟩ := ha
    simp only [renV1, List.map_map, AV.agg.injEq]
    conv => rhs; rw [← List.map_id cs]
    exact List.map_congr_left fun c hc => renC_back fun r hr => h r (List.mem_flatMap.2 ⟨c, hc, hr⟩)
  · have hc : a.isCell = true := by cases a <;> first | exact absurd ⟨_, rfl⟩ ha | exact hk
    have e : ∀ (f : Nat → Nat) (x : AV), x.isCell = true → renV1 f x = renC f x := fun f x hx => by cases x <;> first | rfl | simp [AV.isCell] at hx
    rw [e _ a hc, e _ _ (renC_isCell hc)]
    rw [cell_cells hc] at h
    exact renC_back fun r hr => h r (by simpa using hr)
theorem renO_back {ids : List Nat} {n : Nat} {o : Ob} (hk : ∀ x ∈ o.xs, x.known = true) (h : ∀ r ∈ refsO o, r ∈ ids) : renO (outI ids n) (renO (idx · ids) o) = o := by
  by_cases harr : o.arr = true
  · rw [(renO_k _ o).2.2.2.2 harr, (renO_k _ o).2.2.2.2 harr]
  · have harr' : o.arr = false := by simpa using harr
    obtain ⟨k, arr, fz, ok, xs⟩ := o
    simp only at harr'
    subst harr'
    simp only [renO, Bool.false_eq_true, if_false, List.map_map, Ob.mk.injEq, true_and]
    conv => rhs; rw [← List.map_id xs]
    refine List.map_congr_left fun x hx => renV1_back (hk x hx) fun r hr => h r ?_
    simp only [refsO, Bool.false_eq_true, if_false]
    exact List.mem_flatMap.2 ⟨x, hx, hr⟩
section
variable {w : World} {l : Ls} {g : Gs} {bl bg : Bl}
/-- Where the objects lie after a call. -/
def backG (bg bg2 : Bl) (ids : List Nat) (n : Nat) : Bl := ⟨fun r => if r < n then (if r ∈ ids then bg2 (idx r ids) else bg r) else bg2 (ids.length + (r - n)), fun _ _ => True⟩
theorem Stp.back (h : SR w l g bl bg) {ids : List Nat} (hn : ids.Nodup) {gs : Gs} (hp : pick g ids = some gs) {w' : World} {g2 : Gs} {bl2 bg2 : Bl} {wr : List Nat} {own : Option Ob}
    (hs : Stp w [] (gs.map (renO (idx · ids))) (subL w l g bl bg ids) (subG bg ids) w' (ownL own) g2 bl2 bg2 wr) (hJ : ∀ b p, bl2.J b p → b < w.heap.size → (mkM w l g bl bg).I b p ∨ ∃ (r : Nat) (o : Ob), r ∈ ids ∧ g[r]? = some o ∧ o.arr = true ∧ bg r = b)
    (hok : ∀ o, own = some o → o.ok = true) (hcl : ∀ o ∈ gs, ∀ r ∈ refsO o, r ∈ ids) (d : Nat) :
    Stp w l g bl bg w' (putO l d own) (back (outI ids g.length) g ids g2) (updO bl d (bl2 0) own) (backG bg bg2 ids g.length) (wr.map (outI ids g.length)) ∧
    Mv w' w' (mkM w' (ownL own) g2 bl2 bg2) (mkM w' (putO l d own) (back (outI ids g.length) g ids g2) (updO bl d (bl2 0) own) (backG bg bg2 ids g.length)) (outI ids g.length) (· < g2.length) := by
  obtain ⟨hgl, hgp⟩ := pick_spec hp
  have hlt : ∀ r ∈ ids, r < g.length := fun r hr => by
    obtain ⟨h1, h2⟩ := idx_spec hr
    exact getElem?_lt (hgp _ r (gs[idx r ids]'(by omega)) h2 (by simp))
  have hgs2 : ids.length ≤ g2.length := by
    rcases Nat.eq_zero_or_pos ids.length with h0 | h0
    · omega
    · have : (gs.map (renO (idx · ids)))[ids.length - 1]? = some (renO (idx · ids) (gs[ids.length - 1]'(by omega))) := by
        simp only [List.getElem?_map]
        rw [List.getElem?_eq_getElem (by omega)]
        rfl
      obtain ⟨o', ho', _⟩ := hs.gs _ _ this
      have := getElem?_lt ho'
      omega
  obtain ⟨b1, b2, b3, b4⟩ := back_spec (outI ids g.length) hn hlt hgs2
  -- the callee's objects, and the caller's
  have fwd : ∀ k o, g2[k]? = some o → (AE.back (outI ids g.length) g ids g2)[outI ids g.length k]? = some (renO (outI ids g.length) o) ∧ backG bg bg2 ids g.length (outI ids g.length k) = bg2 k := fun k o ho => by
    rcases Nat.lt_or_ge k ids.length with hk | hk
    · have hr : ids[k]? = some ids[k] := by simp
      rw [outI_lt hr]
      refine ⟨b2 k _ o hr ho, ?_⟩
      have hm := List.mem_of_getElem? hr
      simp only [backG, hlt _ hm, hm, if_true, idx_get hn hr]
    · rw [outI_ge hk]
      refine ⟨b4 k o hk ho, ?_⟩
      simp only [backG]
      rw [if_neg (by omega)]
      congr 1
      omega
  have inj : ∀ k k', k < g2.length → k' < g2.length → outI ids g.length k = outI ids g.length k' → k = k' := fun k k' h1 h2 e => by
    rcases Nat.lt_or_ge k ids.length with hk | hk <;> rcases Nat.lt_or_ge k' ids.length with hk' | hk'
    · have e1 : ids[k]? = some ids[k] := by simp
      have e2 : ids[k']? = some ids[k'] := by simp
      rw [outI_lt e1, outI_lt e2] at e
      exact (List.getElem?_inj hk hn).1 (by rw [e1, e2, e])
    · have e1 : ids[k]? = some ids[k] := by simp
      rw [outI_lt e1, outI_ge hk'] at e
      have := hlt _ (List.mem_of_getElem? e1)
      omega
    · have e1 : ids[k']? = some ids[k'] := by simp
      rw [outI_lt e1, outI_ge hk] at e
      have := hlt _ (List.mem_of_getElem? e1)
      omega
    · rw [outI_ge hk, outI_ge hk'] at e
      omega
  have inv : ∀ r o', (AE.back (outI ids g.length) g ids g2)[r]? = some o' → (r < g.length ∧ r ∉ ids ∧ g[r]? = some o' ∧ backG bg bg2 ids g.length r = bg r) ∨ ∃ k o, g2[k]? = some o ∧ r = outI ids g.length k ∧ o' = renO (outI ids g.length) o ∧ backG bg bg2 ids g.length r = bg2 k := fun r o' ho => by
    have hrl := getElem?_lt ho
    have viaK : ∀ k, k < g2.length → r = outI ids g.length k → ∃ k o, g2[k]? = some o ∧ r = outI ids g.length k ∧ o' = renO (outI ids g.length) o ∧ backG bg bg2 ids g.length r = bg2 k := fun k hk e => by
      have hk' : g2[k]? = some g2[k] := by simp
      obtain ⟨f1, f2⟩ := fwd k _ hk'
      rw [← e] at f1 f2
      rw [ho] at f1
      injection f1 with f1
      exact ⟨k, _, hk', e, f1, f2⟩
    by_cases hr : r < g.length
    · by_cases hm : r ∈ ids
      · obtain ⟨i1, i2⟩ := idx_spec hm
        exact .inr (viaK (idx r ids) (by omega) (outI_lt i2).symm)
      · rw [b3 r hr hm] at ho
        exact .inl ⟨hr, hm, ho, by simp only [backG, hr, hm, if_true, if_false]⟩
    · rw [b1] at hrl
      exact .inr (viaK (ids.length + (r - g.length)) (by omega) (by rw [outI_ge (by omega)]; omega))
  -- whose blocks are whose
  have own2sub : ∀ b, own2 (gs.map (renO (idx · ids))) (subG bg ids) b → ∃ r, r ∈ ids ∧ r < g.length ∧ bg r = b := fun b ⟨k, hk, hb⟩ => by
    simp only [List.length_map] at hk
    have hr : ids[k]? = some (ids[k]'(by omega)) := by simp
    refine ⟨_, List.mem_of_getElem? hr, hlt _ (List.mem_of_getElem? hr), ?_⟩
    rw [← hb]
    simp [subG, List.getD, hr]
  have own1no : ∀ b, ¬ own1 [] (subL w l g bl bg ids) b := fun b ⟨d, v, o, hd, _⟩ => by simp [lo, lget] at hd
  have blk2 : ∀ k, k < g2.length → (∃ r, r ∈ ids ∧ r < g.length ∧ bg r = bg2 k) ∨ w.heap.size ≤ bg2 k := fun k hk => (hs.g1 (bg2 k) ⟨k, hk, rfl⟩).elim (fun h => .inl (own2sub _ h)) fun h => h.elim (fun h => absurd h (own1no _)) .inr
  have blkO : ∀ o, own = some o → w.heap.size ≤ bl2 0 := fun o ho => (hs.l1 (bl2 0) ⟨0, 1, o, by rw [ho]; rfl, rfl⟩).elim (fun h => absurd h (own1no _)) id
  have same' : ∀ b, b < w.heap.size → (∀ r, r ∈ ids → r < g.length → bg r ≠ b) → w'.heap[b]? = w.heap[b]? := fun b hb hne => hs.same b hb (own1no b) fun ho => by
    obtain ⟨r, h1, h2, h3⟩ := own2sub b ho
    exact hne r h1 h2 h3
  -- a cell that nobody writes to
  have hI2 : ∀ b p, (mkM w' (ownL own) g2 bl2 bg2).I b p → (mkM w' (putO l d own) (AE.back (outI ids g.length) g ids g2) (updO bl d (bl2 0) own) (backG bg bg2 ids g.length)).I b p := fun b p hI => by
    have hGpart : ∀ (k : Nat) (o : Ob), g2[k]? = some o → bg2 k = b → (renO (outI ids g.length) o).arr = true ∧ p < (renO (outI ids g.length) o).xs.length * (renO (outI ids g.length) o).k := fun k o ho hb => by
      obtain ⟨k1, k2, k3, k4, _⟩ := renO_k (outI ids g.length) o
      rw [k1, k2, k4]
      exact hI.2.2 k o ho hb
    have hOpart : ∀ o, own = some o → bl2 0 = b → o.fz = true ∧ p < o.xs.length * o.k := fun o ho hb => hI.2.1 0 1 o (by rw [ho]; rfl) hb
    rcases Nat.lt_or_ge b w.heap.size with hb | hb
    · rcases hJ b p hI.1.2 hb with hm | ⟨r, o, hr, ho, ha, hbr⟩
      · refine ⟨⟨Nat.lt_of_lt_of_le hb hs.size, by rw [updO_J]; exact hm.1.2⟩, fun e v o he hbe => ?_, fun r o hr hbr => ?_⟩
        · rcases lo_putO he with ⟨h1, h2⟩ | ⟨rfl, h2⟩
          · rw [updO_ne _ _ _ _ h2] at hbe
            exact hm.2.1 e v o h1 hbe
          · subst h2
            simp only [updO, upd_same] at hbe
            exact hOpart o rfl hbe
        · rcases inv r o hr with ⟨_, _, h3, h4⟩ | ⟨k, o2, h1, _, rfl, h4⟩
          · exact hm.2.2 r o h3 (by rw [← h4]; exact hbr)
          · exact hGpart k o2 h1 (by rw [← h4]; exact hbr)
      · refine ⟨⟨Nat.lt_of_lt_of_le hb hs.size, by rw [updO_J, ← hbr]; exact h.jg r o p ho ha⟩, fun e v o' he hbe => ?_, fun r' o' hr' hbr' => ?_⟩
        · rcases lo_putO he with ⟨h1, h2⟩ | ⟨rfl, h2⟩
          · rw [updO_ne _ _ _ _ h2, ← hbr] at hbe
            exact absurd hbe (h.dlg e v o' r h1 (getElem?_lt ho))
          · subst h2
            simp only [updO, upd_same] at hbe
            exact hOpart o' rfl hbe
        · rcases inv r' o' hr' with ⟨h1, h2, h3, h4⟩ | ⟨k, o2, h1, _, rfl, h4⟩
          · rw [h4, ← hbr] at hbr'
            have := h.dgg r' r h1 (getElem?_lt ho) hbr'
            subst this
            exact absurd hr h2
          · exact hGpart k o2 h1 (by rw [← h4]; exact hbr')
    · refine ⟨⟨hI.1.1, by rw [updO_J]; exact h.jn b p hb⟩, fun e v o' he hbe => ?_, fun r' o' hr' hbr' => ?_⟩
      · rcases lo_putO he with ⟨h1, h2⟩ | ⟨rfl, h2⟩
        · rw [updO_ne _ _ _ _ h2] at hbe
          exact absurd (h.ol e v o' h1).lt (by omega)
        · subst h2
          simp only [updO, upd_same] at hbe
          exact hOpart o' rfl hbe
      · rcases inv r' o' hr' with ⟨h1, h2, h3, h4⟩ | ⟨k, o2, h1, _, rfl, h4⟩
        · rw [h4] at hbr'
          exact absurd (h.bg_lt h1) (by omega)
        · exact hGpart k o2 h1 (by rw [← h4]; exact hbr')
  have hmv : Mv w' w' (mkM w' (ownL own) g2 bl2 bg2) (mkM w' (putO l d own) (AE.back (outI ids g.length) g ids g2) (updO bl d (bl2 0) own) (backG bg bg2 ids g.length)) (outI ids g.length) (· < g2.length) := by
    refine ⟨fun k x _ hx => ?_, fun k kk xs b _ hx => ?_, fun k kk xs b hx x hxx => ?_, fun b p hI => ⟨hI2 b p hI, fun _ hv => hv⟩, fun r k xs b _ _ cs e hb => ⟨cs, hb, rfl⟩⟩
    · simp only [mkM] at hx ⊢
      cases ho : g2[k]? with
      | none => simp [ho] at hx
      | some o =>
        obtain ⟨f1, f2⟩ := fwd k o ho
        obtain ⟨k1, k2, _⟩ := renO_k (outI ids g.length) o
        simp only [ho] at hx
        simp only [f1, f2, k1, k2]
        exact hx
    · simp only [mkM] at hx ⊢
      cases ho : g2[k]? with
      | none => simp [ho] at hx
      | some o =>
        obtain ⟨f1, f2⟩ := fwd k o ho
        simp only [ho] at hx
        split at hx
        · rename_i harr
          simp only [f1, f2, (renO_k (outI ids g.length) o).2.2.2.2 harr, harr, if_true]
          exact hx
        · cases hx
    · simp only [mkM] at hx
      cases ho : g2[k]? with
      | none => simp [ho] at hx
      | some o =>
        simp only [ho] at hx
        split at hx
        · rename_i harr
          simp only [Option.some.injEq, Prod.mk.injEq] at hx
          obtain ⟨rfl, rfl, rfl⟩ := hx
          exact (hs.sr.og k o ho).1.ok ((hs.sr.og k o ho).2.ok harr) x hxx
        · cases hx
  have hsub := (h.sub hn hp hcl).2
  have idxI : ∀ r, r ∈ ids → outI ids g.length (idx r ids) = r := fun r hr => outI_lt (idx_spec hr).2
  have hle : Le w w' (mkM w l g bl bg) (mkM w' (putO l d own) (AE.back (outI ids g.length) g ids g2) (updO bl d (bl2 0) own) (backG bg bg2 ids g.length)) := by
    have hgb : ∀ r x, (mkM w l g bl bg).gb r = some x → (mkM w' (putO l d own) (AE.back (outI ids g.length) g ids g2) (updO bl d (bl2 0) own) (backG bg bg2 ids g.length)).gb r = some x := fun r x hx => by
      by_cases hm : r ∈ ids
      · have h1 := hs.le.gb _ _ (hsub.gb r x hm hx)
        have := hmv.gb _ _ (mkM_ref (.inl ⟨_, h1⟩)) h1
        rw [idxI r hm] at this
        exact this
      · have hrl := mkM_ref (.inl ⟨_, hx⟩)
        simp only [mkM] at hx ⊢
        rw [b3 r hrl hm]
        simp only [backG, hrl, hm, if_true, if_false]
        exact hx
    refine ⟨fun f => ?_, fun f hf x hx => ?_, hgb, fun r k xs b hx => ?_, fun b p hI => ⟨hI2 b p (hs.le.I b p (hsub.I b p hI).1).1, (hs.le.I b p (hsub.I b p hI).1).2⟩, fun b cs e hb => hs.le.size b cs e hb⟩
    · rcases lo_putO_cases (l := l) (d := d) own f with hc | ⟨rfl, o, ho, hlo⟩
      · simp only [mkM, lo_putO_ne hc]; exact Nat.le_refl _
      · simp only [mkM, hlo, LO.ver]; omega
    · rcases lo_putO_cases (l := l) (d := d) own f with hc | ⟨rfl, o, ho, hlo⟩
      · simp only [mkM, lo_putO_ne hc, updO_ne _ _ _ _ hc] at hx ⊢
        split <;> rename_i hlo <;> simp only [hlo] at hx
        · exact hx
        · rename_i v r
          obtain ⟨o, ho, harr⟩ := h.fw f v r hlo
          have h1 : (mkM w l g bl bg).gb r = some (bg r, o.k) := by simp [mkM, ho, harr]
          have h2 := hgb r _ h1
          simp only [mkM] at h2
          rw [ho]
          cases ho' : (AE.back (outI ids g.length) g ids g2)[r]? with
          | none => simp [ho'] at hx
          | some o' =>
            simp only [ho', Option.map_some] at hx h2 ⊢
            split at h2
            · cases h2
            · rw [← h2]; exact hx
        · exact hx
      · simp only [mkM, hlo, LO.ver] at hf
        omega
    · by_cases hm : r ∈ ids
      · obtain ⟨ys, b', h1, h2⟩ := hs.le.ga _ _ _ _ (hsub.ga r k xs b hm hx)
        have := hmv.ga _ _ _ _ (mkM_ref (.inr ⟨_, h1⟩)) h1
        rw [idxI r hm] at this
        exact ⟨ys, b', this, h2⟩
      · have hrl := mkM_ref (.inr ⟨_, hx⟩)
        refine ⟨[], b, ?_, fun _ => rfl⟩
        simp only [mkM, List.append_nil] at hx ⊢
        rw [b3 r hrl hm]
        simp only [backG, hrl, hm, if_true, if_false]
        exact hx
  have no1 : ∀ e v o, lo l e = .ob v o → ∀ r, r ∈ ids → r < g.length → bg r ≠ bl e := fun e v o he r _ hr e1 => h.dlg e v o r he hr e1.symm
  have no2 : ∀ s, s < g.length → s ∉ ids → ∀ r, r ∈ ids → r < g.length → bg r ≠ bg s := fun s hsl hsn r hr hrl e1 => hsn (by rw [← h.dgg r s hrl hsl e1]; exact hr)
  have sr : SR w' (putO l d own) (AE.back (outI ids g.length) g ids g2) (updO bl d (bl2 0) own) (backG bg bg2 ids g.length) := by
    refine ⟨fun e v o he => ?_, fun r o' hr => ?_, fun e v r he => ?_, fun e e' v o v' o' he he' hb => ?_, fun r s hr hsl hb => ?_, fun e v o r he hr hb => ?_, fun b p hb => ?_, fun e v o p he => ?_, fun r o' p hr ha => ?_⟩
    · rcases lo_putO he with ⟨h1, h2⟩ | ⟨rfl, h2⟩
      · rw [updO_ne _ _ _ _ h2]
        have := h.ol e v o h1
        exact this.mono hle (same' _ this.lt (no1 e v o h1))
      · subst h2
        have ho := hs.sr.ol 0 1 o rfl
        simp only [updO, upd_same]
        obtain ⟨cs, e, c1, c2, c3⟩ := ho.mem
        refine ⟨ho.len, ho.ok, cs, e, c1, c2, fun i j x c hx hc => ?_⟩
        obtain ⟨u, hu, hur⟩ := c3 i j x c hx hc
        exact ⟨u, hu, hur.goodT hmv.I (goodC_good (good_cells (ho.ok (hok o rfl) x (List.mem_of_getElem? hx)) c (List.mem_of_getElem? hc)))⟩
    · rcases inv r o' hr with ⟨h1, h2, h3, h4⟩ | ⟨k, o2, h1, _, rfl, h4⟩
      · rw [h4]
        have := h.og r o' h3
        exact ⟨this.1.mono hle (same' _ this.1.lt (no2 r h1 h2)), this.2⟩
      · rw [h4]
        have := hs.sr.og k o2 h1
        refine hmv.ob this.1 this.2 (fun x hx => ?_) rfl
        unfold refsO at hx
        split at hx
        · cases hx
        · obtain ⟨y, hy, hx⟩ := List.mem_flatMap.1 hx
          exact this.1.refs_lt hy hx
    · have he' : lo l e = .fwd v r := by
        rcases lo_putO_cases (l := l) (d := d) own e with hc | ⟨rfl, o, ho, hlo⟩
        · rw [lo_putO_ne hc] at he; exact he
        · rw [hlo] at he; cases he
      obtain ⟨o, ho, harr⟩ := h.fw e v r he'
      by_cases hm : r ∈ ids
      · obtain ⟨s1, _⟩ := sub_of (bg := bg) hp (idx · ids) hm ho
        obtain ⟨o2, t1, t2, t3, _⟩ := hs.gs _ _ s1
        obtain ⟨f1, _⟩ := fwd _ _ t1
        rw [idxI r hm] at f1
        exact ⟨_, f1, by rw [(renO_k _ o2).2.1, t3, (renO_k _ o).2.1]; exact harr⟩
      · exact ⟨o, by rw [b3 r (getElem?_lt ho) hm]; exact ho, harr⟩
    · rcases lo_putO he with ⟨h1, h2⟩ | ⟨h1, h2⟩ <;> rcases lo_putO he' with ⟨h3, h4⟩ | ⟨h3, h4⟩
      · rw [updO_ne _ _ _ _ h2, updO_ne _ _ _ _ h4] at hb
        exact h.dll e e' v o v' o' h1 h3 hb
      · rw [updO_ne _ _ _ _ h2, h3] at hb
        have := blkO o' h4
        rw [h4] at hb
        simp only [updO, upd_same] at hb
        exact absurd (h.ol e v o h1).lt (by omega)
      · rw [updO_ne _ _ _ _ h4, h1] at hb
        have := blkO o h2
        rw [h2] at hb
        simp only [updO, upd_same] at hb
        exact absurd (h.ol e' v' o' h3).lt (by omega)
      · rw [h1, h3]
    · have hr' := List.getElem?_eq_getElem hr
      have hs' := List.getElem?_eq_getElem hsl
      rcases inv r _ hr' with ⟨h1, h2, _, h4⟩ | ⟨k, o2, h1, e1, _, h4⟩ <;> rcases inv s _ hs' with ⟨g1, g2', _, g4⟩ | ⟨k', o2', g1, e2, _, g4⟩
      · rw [h4, g4] at hb
        exact h.dgg r s h1 g1 hb
      · rw [h4, g4] at hb
        rcases blk2 k' (getElem?_lt g1) with ⟨q, q1, q2, q3⟩ | q
        · exact absurd (q3.trans hb.symm) (no2 r h1 h2 q q1 q2)
        · exact absurd (h.bg_lt h1) (by omega)
      · rw [h4, g4] at hb
        rcases blk2 k (getElem?_lt h1) with ⟨q, q1, q2, q3⟩ | q
        · exact absurd (q3.trans hb) (no2 s g1 g2' q q1 q2)
        · exact absurd (h.bg_lt g1) (by omega)
      · rw [h4, g4] at hb
        rw [e1, e2, hs.sr.dgg k k' (getElem?_lt h1) (getElem?_lt g1) hb]
    · have hr' := List.getElem?_eq_getElem hr
      rcases lo_putO he with ⟨h1, h2⟩ | ⟨h1, h2⟩ <;> rcases inv r _ hr' with ⟨g1, g2', _, g4⟩ | ⟨k, o2, g1, _, _, g4⟩
      · rw [updO_ne _ _ _ _ h2, g4] at hb
        exact h.dlg e v o r h1 g1 hb
      · rw [updO_ne _ _ _ _ h2, g4] at hb
        rcases blk2 k (getElem?_lt g1) with ⟨q, q1, q2, q3⟩ | q
        · exact no1 e v o h1 q q1 q2 (q3.trans hb.symm)
        · exact absurd (h.ol e v o h1).lt (by omega)
      · rw [h1, g4] at hb
        have := blkO o h2
        rw [h2] at hb
        simp only [updO, upd_same] at hb
        exact absurd (h.bg_lt g1) (by omega)
      · rw [h1, g4, h2] at hb
        simp only [updO, upd_same] at hb
        exact hs.sr.dlg 0 1 o k (by rw [h2]; rfl) (getElem?_lt g1) hb
    · rw [updO_J]
      exact h.jn b p (Nat.le_trans hs.size hb)
    · rw [updO_J]
      rcases lo_putO he with ⟨h1, h2⟩ | ⟨h1, h2⟩
      · rw [updO_ne _ _ _ _ h2]
        exact h.jl e v o p h1
      · rw [h1]
        have := blkO o h2
        rw [h2]
        simp only [updO, upd_same]
        exact h.jn _ _ this
    · rw [updO_J]
      rcases inv r o' hr with ⟨h1, h2, h3, h4⟩ | ⟨k, o2, h1, _, rfl, h4⟩
      · rw [h4]
        exact h.jg r o' p h3 ha
      · rw [h4]
        rw [(renO_k _ o2).2.1] at ha
        rcases Nat.lt_or_ge (bg2 k) w.heap.size with hb | hb
        · rcases hJ _ p (hs.sr.jg k o2 p h1 ha) hb with hm | ⟨q, o, q1, q2, q3, q4⟩
          · exact hm.1.2
          · rw [← q4]; exact h.jg q o p q2 q3
        · exact h.jn _ _ hb
  refine ⟨⟨sr, hle, fun b hb n1 n2 => same' b hb fun r _ hr e1 => n2 ⟨r, hr, e1⟩, fun r o ho => ?_, fun b ⟨e, v, o, he, hb⟩ => ?_, fun b ⟨r, hr, hb⟩ => ?_, hs.size, hs.os, hs.tape, hs.output, updO_J _ _ _ _, hs.fz⟩, hmv⟩
  · have hrl := getElem?_lt ho
    by_cases hm : r ∈ ids
    · obtain ⟨s1, s2⟩ := sub_of (bg := bg) hp (idx · ids) hm ho
      obtain ⟨o2, t1, t2, t3, t4⟩ := hs.gs _ _ s1
      obtain ⟨f1, f2⟩ := fwd _ _ t1
      rw [idxI r hm] at f1 f2
      obtain ⟨k1, k2, _⟩ := renO_k (outI ids g.length) o2
      obtain ⟨k3, k4, _⟩ := renO_k (idx · ids) o
      refine ⟨_, f1, by rw [k1, t2, k3], by rw [k2, t3, k4], fun hnw => ?_⟩
      have hnw' : idx r ids ∉ wr := fun hw => hnw (List.mem_map.2 ⟨_, hw, idxI r hm⟩)
      obtain ⟨e1, e2⟩ := t4 hnw'
      have hom : o ∈ gs := by
        obtain ⟨i1, i2⟩ := idx_spec hm
        have hg : gs[idx r ids]? = some (gs[idx r ids]'(by omega)) := by simp
        have := hgp _ r _ i2 hg
        rw [ho] at this
        injection this with this
        rw [this]
        exact List.mem_of_getElem? hg
      refine ⟨?_, by rw [f2, e2, s2]⟩
      rw [e1]
      exact renO_back (fun x hx => ((h.og r o ho).1.len x hx).2) (hcl o hom)
    · exact ⟨o, by rw [b3 r hrl hm]; exact ho, rfl, rfl, fun _ => ⟨rfl, by simp only [backG, hrl, hm, if_true, if_false]⟩⟩
  · rcases lo_putO he with ⟨h1, h2⟩ | ⟨h1, h2⟩
    · rw [updO_ne _ _ _ _ h2] at hb
      exact .inl ⟨e, v, o, h1, hb⟩
    · have := blkO o h2
      rw [h1, h2] at hb
      simp only [updO, upd_same] at hb
      exact .inr (by omega)
  · have hr' := List.getElem?_eq_getElem hr
    rcases inv r _ hr' with ⟨g1, g2', _, g4⟩ | ⟨k, o2, g1, _, _, g4⟩
    · exact .inl ⟨r, g1, g4.symm.trans hb⟩
    · rw [g4] at hb
      rcases blk2 k (getElem?_lt g1) with ⟨q, q1, q2, q3⟩ | q
      · exact .inl ⟨q, q2, q3.trans hb⟩
      · exact .inr (.inr (by omega))
end
end Go.AE
