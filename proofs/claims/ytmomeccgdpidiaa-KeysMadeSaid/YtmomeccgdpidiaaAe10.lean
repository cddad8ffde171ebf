import Derived.Test.YtmomeccgdpidiaaAe9
/-! What leaves a frame: the passes. -/
namespace Go.AE
open Go.RowKit

theorem outC_of {w : World} {m : Mp} {a : AV} {c : AV} {u : Value} (_ : VR w m c u) (h1 : c.isCell = true) (h2 : c.gclC = true) : outC a c := ⟨h1, h2⟩
theorem ObR.exp {w : World} {m m' : Mp} {o : Ob} {b : Nat} {xs : List AV} (h : ObR w m o b) (hlen : xs.length = o.xs.length) (hkc : ∀ (i : Nat) (x y : AV), o.xs[i]? = some x → xs[i]? = some y → outV' x y)
    (cs : Array Value) (e : TypeId) (hb : blk w b cs e) (hs : o.xs.length * o.k ≤ cs.size) (hv : ∀ (i j : Nat) (y c : AV) (u : Value), xs[i]? = some y → y.cells[j]? = some c → cs[i * o.k + j]? = some u → VR w m' c u) : ObR w m' { o with xs := xs, ok := false } b := by
  have key : ∀ (i : Nat) (y : AV), xs[i]? = some y → ∃ x, o.xs[i]? = some x ∧ outV' x y := fun i y hy => by
    have hlt := getElem?_lt hy
    have : o.xs[i]? = some (o.xs[i]'(by omega)) := by simp
    exact ⟨_, this, hkc i _ y this hy⟩
  refine ⟨fun y hy => ?_, fun h => by simp at h, cs, e, hb, by simpa [hlen] using hs, fun i j y c hy hc => ?_⟩
  · obtain ⟨i, hi⟩ := List.getElem?_of_mem hy
    obtain ⟨x, hx, q⟩ := key i y hi
    exact ⟨by rw [q.2.1]; exact (h.len x (List.mem_of_getElem? hx)).1, q.1⟩
  · obtain ⟨x, hx, q⟩ := key i y hy
    have hk := (h.len x (List.mem_of_getElem? hx)).1
    have hj := getElem?_lt hc
    rw [q.2.1, hk] at hj
    have hi := getElem?_lt hx
    have : (i + 1) * o.k ≤ o.xs.length * o.k := Nat.mul_le_mul_right _ (by omega)
    rw [Nat.add_mul] at this
    have hlt : i * o.k + j < cs.size := by omega
    exact ⟨cs[i * o.k + j], by simp [hlt], hv i j y c _ hy hc (by simp [hlt])⟩
/-- The elements of an object, as values. -/
def elemV (cs : Array Value) (k : Nat) (x : AV) (i : Nat) : Value := match x with | .agg _ => .agg (cs.extract (i * k) (i * k + k)) | _ => cs[i * k]?.getD .nilFunc
theorem expN_spec {w : World} {bl : Bl} : ∀ (n : Nat) (keep : Bool), ExpOK w bl (expN n keep) (fun _ => True) outC
  | 0, keep => by
    intro c x c' x' h
    simp [expN] at h
  | n + 1, keep => by
    intro c x c' x' h _ bg u hsr hv
    have same : ∀ {d : AV}, some (d, x) = some (c', x') → VR w (mkM w x.l x.g bl bg) d u → d.isCell = true → d.gclC = true → ∃ bg', Stp w x.l x.g bl bg w x'.l x'.g bl bg' [] ∧ VR w (mkM w x'.l x'.g bl bg') c' u ∧ outC c c' := fun {d} e hd h1 h2 => by
      injection e with e
      injection e with e1 e2
      subst e1 e2
      exact ⟨bg, Stp.refl hsr, hd, h1, h2⟩
    cases c with
    | ls d ver i m =>
      simp only [expN] at h
      split at h
      · rename_i v o hlo
        split at h
        · rename_i hc
          obtain ⟨rfl, harr, hok, hle⟩ := hc
          split at h
          · split at h
            · rename_i hc
              obtain ⟨rfl, rfl⟩ := hc
              injection h with h
              injection h with e1 e2
              subst e1 e2
              have hs := Stp.give hsr hlo harr hok
              refine ⟨_, hs, ?_, rfl, rfl⟩
              cases hv with
              | ls _ _ _ _ ad cap c0 c1 c2 =>
              obtain ⟨rfl, cs, e, hb, hsz⟩ := c2 (by simp [mkM, hlo, LO.ver]) (bl d) o.k (by simp [mkM, hlo])
              have := VR.gsWhole hs.sr (r := x.g.length) (o := { o with fz := true }) (by simp) harr (cs := cs) (e := e) (cap := cap) (by rw [upd_same]; exact hb) (by simpa using hsz) c0
              rw [upd_same] at this
              simpa using this
            · cases h
          · injection h with h
            injection h with e1 e2
            subst e1 e2
            by_cases hfz : o.fz = true
            · refine ⟨bg, ?_, ?_, rfl, rfl⟩
              · simp only [hfz, if_true]; exact Stp.refl hsr
              · simp only [hfz, if_true]
                exact VR.lsList hsr hlo hok hfz hle hv
            · have hs := Stp.freeze hsr hlo
              refine ⟨bg, ?_, ?_, rfl, rfl⟩
              · simp only [hfz]; exact hs
              · simp only [hfz]
                exact VR.lsList hs.sr (o := { o with fz := true }) (by simp) hok rfl hle (hv.mono hs.le)
        · cases h
      · cases h
    | lp d ver i j =>
      simp only [expN] at h
      split at h
      · rename_i v o hlo
        split at h
        · rename_i hc
          obtain ⟨rfl, harr⟩ := hc
          simp only [Option.bind_eq_some_iff] at h
          obtain ⟨⟨xs, s⟩, h1, h⟩ := h
          have ho := hsr.ol d v o hlo
          obtain ⟨cs, e, hb, hs, hcell⟩ := ho.mem
          have hval : ∀ (i : Nat) (y : AV) (b : Value), o.xs[i]? = some y → ((o.xs.zipIdx).map fun p => elemV cs o.k p.1 p.2)[i]? = some b → VR w (mkM w x.l x.g bl bg) y b := fun i y b hy hbb => by
            simp [hy] at hbb
            subst hbb
            have hk := ho.len y (List.mem_of_getElem? hy)
            have hi := getElem?_lt hy
            have hmul : (i + 1) * o.k ≤ o.xs.length * o.k := Nat.mul_le_mul_right _ (by omega)
            rw [Nat.add_mul] at hmul
            by_cases hag : ∃ ds, y = .agg ds
            · obtain ⟨ds, rfl⟩ := hag
              simp only [elemV]
              refine .agg ds _ ?_ (known_cells hk.2) fun p c u hc hu => ?_
              · have := hk.1
                simp only [AV.cells] at this
                simp
                omega
              · have hp := getElem?_lt hc
                have := hk.1
                simp only [AV.cells] at this
                obtain ⟨v', hv', hr⟩ := hcell i p _ c hy hc
                rw [Array.getElem?_extract_of_lt (by omega)] at hu
                rw [Array.getElem?_eq_getElem (by omega)] at hv'
                injection hv' with hv'
                injection hu with hu
                rw [hv'] at hu
                rw [← hu]
                exact hr
            · have hyc : y.isCell = true := by cases y <;> first | exact absurd ⟨_, rfl⟩ hag | exact hk.2
              have e0 : elemV cs o.k y i = cs[i * o.k]?.getD .nilFunc := by cases y <;> first | rfl | exact absurd ⟨_, rfl⟩ hag
              obtain ⟨v', hv', hr⟩ := hcell i 0 y y hy (by rw [cell_cells hyc]; rfl)
              rw [Nat.add_zero] at hv'
              rw [e0, hv']
              exact hr
          obtain ⟨bg', s1, l1, v1, q1⟩ := mapS_spec (expE_spec (expN_spec n true) (fun cs x => by cases n <;> rfl)) o.xs _ xs s h1 (fun _ _ => trivial) bg ((o.xs.zipIdx).map fun p => elemV cs o.k p.1 p.2) hsr (by simp) hval
          have s1' : Stp w x.l x.g bl bg w s.l s.g bl bg' [] := s1
          split at h
          · rename_i v2 o2 hlo2
            split at h
            · rename_i hc
              obtain ⟨rfl, hfz2, hk2⟩ := hc
              injection h with h
              injection h with e1 e2
              subst e1 e2
              have hob : ObR w (mkM w s.l s.g bl bg') { o with xs := xs, ok := false } (bl d) := by
                refine ho.exp l1 q1 cs e hb hs fun p q y c u hy hc hu => ?_
                have hp : p < xs.length := getElem?_lt hy
                have hx : o.xs[p]? = some (o.xs[p]'(by omega)) := by simp
                have qq := q1 p _ y hx hy
                have hk := (ho.len _ (List.mem_of_getElem? hx)).1
                have hvv := v1 p y (elemV cs o.k (o.xs[p]'(by omega)) p) hy (by simp [hx])
                have hmul : (p + 1) * o.k ≤ o.xs.length * o.k := Nat.mul_le_mul_right _ (by omega)
                rw [Nat.add_mul] at hmul
                have hq := getElem?_lt hc
                rw [qq.2.1, hk] at hq
                obtain ⟨z1, z2, z3⟩ := hvv.cells qq.1
                refine z3 q c u hc ?_
                have hl2 := z1
                rw [qq.2.1, hk] at hl2
                generalize hxx : o.xs[p]'(by omega) = xx at hvv hl2 z1 z3 ⊢
                rw [hxx] at hx
                have hkx := ho.len xx (List.mem_of_getElem? hx)
                by_cases hag : ∃ ds, xx = .agg ds
                · obtain ⟨ds, rfl⟩ := hag
                  simp only [elemV, Value.cells]
                  rw [Array.getElem?_extract_of_lt (by omega)]
                  rw [Array.getElem?_eq_getElem (by omega)] at hu
                  exact hu
                · have hyc : xx.isCell = true := by cases xx <;> first | exact absurd ⟨_, rfl⟩ hag | exact hkx.2
                  have e0 : elemV cs o.k xx p = cs[p * o.k]?.getD .nilFunc := by cases xx <;> first | rfl | exact absurd ⟨_, rfl⟩ hag
                  have hk1 : o.k = 1 := by
                    have := hkx.1
                    rw [cell_cells hyc] at this
                    simpa using this.symm
                  have hq0 : q = 0 := by omega
                  subst hq0
                  rw [Nat.add_zero] at hu
                  rw [e0, hu] at hl2 ⊢
                  have huc : u.oneCell' = true := by
                    obtain ⟨v', hv', hr⟩ := hcell p 0 xx xx hx (by rw [cell_cells hyc]; rfl)
                    rw [Nat.add_zero, hu] at hv'
                    injection hv' with hv'
                    rw [hv']
                    exact hr.cell hyc
                  have : u.cells = #[u] := by cases u <;> first | rfl | simp [Value.oneCell'] at huc
                  simp [this]
              have hG : GOk { o with xs := xs, ok := false } := by
                refine ⟨fun hh => by simp at harr; simp [harr] at hh, fun y hy c hc => ?_⟩
                obtain ⟨p, hp⟩ := List.getElem?_of_mem (l := xs) hy
                have hplt : p < xs.length := getElem?_lt hp
                exact (q1 p (o.xs[p]'(by omega)) y (by simp) hp).2.2 c hc
              have hs2 := Stp.promote s1.sr hlo2 (by simpa using hfz2) { o with xs := xs, ok := false } hk2.symm (by simpa using harr) hG hob
              refine ⟨_, s1'.trans hs2, ?_, rfl, rfl⟩
              cases hv with
              | lp _ _ _ _ ad c1 c2 =>
              have := c2 (by simp [mkM, hlo, LO.ver]) (bl d) o.k (by simp [mkM, hlo])
              subst this
              refine .gp _ i j (bl d) o.k ?_
              simp only [mkM]
              rw [List.getElem?_append_right (Nat.le_refl _)]
              simp at harr
              simp [harr]
            · cases h
          · cases h
        · cases h
      · rename_i v r hlo
        split at h
        · rename_i e
          subst e
          injection h with h
          injection h with e1 e2
          subst e1 e2
          refine ⟨bg, Stp.refl hsr, ?_, rfl, rfl⟩
          cases hv with
          | lp _ _ _ _ ad c1 c2 =>
          obtain ⟨o, ho, harr⟩ := hsr.fw d v r hlo
          have := c2 (by simp [mkM, hlo, LO.ver]) (bg r) o.k (by simp [mkM, hlo, ho])
          subst this
          exact .gp r i j (bg r) o.k (by simp [mkM, ho, harr])
        · cases h
      · cases h
    | gs r i m =>
      simp only [expN] at h
      split at h
      · exact same h hv rfl rfl
      · simp only [Option.bind_eq_some_iff] at h
        obtain ⟨o, ho, h⟩ := h
        split at h
        · rename_i hc
          injection h with h
          injection h with e1 e2
          subst e1 e2
          exact ⟨bg, Stp.refl hsr, VR.gsList hsr ho hc.1 hc.2 hv, rfl, rfl⟩
        · cases h
    | fn f fs cs =>
      simp only [expN] at h
      split at h
      · rename_i hfs
        simp only [Option.bind_eq_some_iff] at h
        obtain ⟨⟨cs', s⟩, h1, h⟩ := h
        split at h
        · rename_i hcs
          injection h with h
          injection h with e1 e2
          subst e1 e2
          cases hv with
          | fn _ _ _ gs vs f1 f2 f3 f4 f5 =>
          obtain ⟨bg', s1, l1, v1, q1⟩ := mapS_spec (expN_spec n keep) cs x cs' s h1 (fun _ _ => trivial) bg vs.toList hsr (by simpa using f2.symm) fun i a b ha hb => f5 i a b ha (by simpa using hb)
          refine ⟨bg', s1, .fn f fs cs' gs vs f1 (by omega) (fun c hc => ?_) (fun i a b ha hb => (f4 i a b ha hb).mono s1.le) fun i a b ha hb => v1 i a b ha (by simpa using hb), rfl, ?_⟩
          · obtain ⟨i, hi⟩ := List.getElem?_of_mem hc
            have hlt := getElem?_lt hi
            exact (q1 i (cs[i]'(by omega)) c (by simp) hi).1
          · simp only [AV.gclC, Bool.and_eq_true]
            exact ⟨hfs, hcs⟩
        · cases h
      · cases h
    | gp r i j => exact same h hv rfl rfl
    | agg _ => cases h
    | tup _ => cases h
    | own _ _ _ => cases h
    | dead => cases h
    | rp _ _ => cases h
    | int _ _ => exact same h hv rfl rfl
    | bool _ => exact same h hv rfl rfl
    | str _ => exact same h hv rfl rfl
    | nilp => exact same h hv rfl rfl
    | nilf => exact same h hv rfl rfl
    | nili => exact same h hv rfl rfl
    | nils => exact same h hv rfl rfl
    | nilm => exact same h hv rfl rfl
    | ifc _ => exact same h hv rfl rfl
    | sl _ _ _ => exact same h hv rfl rfl
theorem expV_spec {w : World} {bl : Bl} (keep : Bool) : ExpOK w bl (expV keep) (fun _ => True) outV' := by
  have := expE_spec (w := w) (bl := bl) (expN_spec depthX keep) (fun cs x => rfl)
  intro c x c' x' h
  refine this c x c' x' ?_
  cases c <;> exact h
end Go.AE
