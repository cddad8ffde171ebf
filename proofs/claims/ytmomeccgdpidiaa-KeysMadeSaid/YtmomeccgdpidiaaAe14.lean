import Derived.Test.YtmomeccgdpidiaaAe13
/-! Stores. -/
namespace Go.AE
open Go.RowKit

theorem setP_spec {y y' : AV} {j : Nat} {cs : List AV} (h : setP y j cs = some y') (hy : y.known = true) (hcs : ∀ c ∈ cs, c.isCell = true) :
    y'.known = true ∧ y'.cells.length = y.cells.length ∧ j + cs.length ≤ y.cells.length ∧
    ∀ (p : Nat) (c : AV), y'.cells[p]? = some c → (j ≤ p ∧ p < j + cs.length ∧ cs[p - j]? = some c) ∨ ((p < j ∨ j + cs.length ≤ p) ∧ y.cells[p]? = some c) := by
  by_cases ha : ∃ ys, y = .agg ys
  · obtain ⟨ys, rfl⟩ := ha
    simp only [setP] at h
    split at h
    · rename_i hle
      injection h with h
      subst h
      simp only [AV.cells, AV.known, List.all_eq_true] at hy ⊢
      refine ⟨fun c hc => ?_, by simp; omega, hle, fun p c hp => ?_⟩
      · simp only [List.mem_append] at hc
        rcases hc with (h1 | h1) | h1
        · exact hy c (List.mem_of_mem_take h1)
        · exact hcs c h1
        · exact hy c (List.mem_of_mem_drop h1)
      · rcases Nat.lt_or_ge p j with h1 | h1
        · rw [List.append_assoc, List.getElem?_append_left (by simp; omega), List.getElem?_take_of_lt h1] at hp
          exact .inr ⟨.inl h1, hp⟩
        · rcases Nat.lt_or_ge p (j + cs.length) with h2 | h2
          · rw [List.append_assoc, List.getElem?_append_right (by simp; omega), List.getElem?_append_left (by simp; omega)] at hp
            exact .inl ⟨h1, h2, by rw [← hp]; congr 1; simp; omega⟩
          · rw [List.getElem?_append_right (by simp; omega), List.getElem?_drop] at hp
            exact .inr ⟨.inr h2, by rw [← hp]; congr 1; simp; omega⟩
    · cases h
  · have hyc : y.isCell = true := by cases y <;> first | exact absurd ⟨_, rfl⟩ ha | exact hy
    have h' : setC j cs = some y' := by cases y <;> first | exact h | exact absurd ⟨_, rfl⟩ ha
    unfold setC at h'
    split at h'
    · rename_i c
      injection h' with h'
      subst h'
      have hc := hcs c (by simp)
      rw [cell_cells hc, cell_cells hyc]
      exact ⟨cell_known hc, rfl, by simp, fun p d hp => .inl (by
        cases p with
        | zero => simpa using hp
        | succ p => simp at hp)⟩
    · cases h'
theorem mid_get {cur : List Value} {vs : List Value} {off : Nat} (h : off + vs.length ≤ cur.length) (p : Nat) :
    (cur.take off ++ vs ++ cur.drop (off + vs.length)).toArray[p]? = if off ≤ p ∧ p < off + vs.length then vs[p - off]? else cur[p]? := by
  rw [List.getElem?_toArray]
  rcases Nat.lt_or_ge p off with h1 | h1
  · rw [List.append_assoc, List.getElem?_append_left (by simp; omega), List.getElem?_take_of_lt h1, if_neg (by omega)]
  · rcases Nat.lt_or_ge p (off + vs.length) with h2 | h2
    · rw [List.append_assoc, List.getElem?_append_right (by simp; omega), List.getElem?_append_left (by simp; omega), if_pos ⟨h1, h2⟩]
      congr 1; simp; omega
    · rw [List.getElem?_append_right (by simp; omega), List.getElem?_drop, if_neg (by omega)]
      congr 1; simp; omega
theorem mid_size {cur : List Value} {vs : List Value} {off : Nat} (h : off + vs.length ≤ cur.length) : (cur.take off ++ vs ++ cur.drop (off + vs.length)).toArray.size = cur.length := by
  simp; omega
theorem storeAt_run {P : Program} {w : World} {t e : TypeId} {s b p : Nat} {cur : Array Value} (hb : blk w b cur e) (hs : szP P t = some s) {u : Value} (hu : u.cells.size = s) (h1 : ∀ v ∈ u.cells.toList, v.oneCell' = true) (hle : p + s ≤ cur.size) :
    (Instr.storeAt t (.pointer (some ⟨b, p, none⟩)) u).run P w = .ok () (w.setRow b (cur.toList.take p ++ u.cells.toList ++ cur.toList.drop (p + u.cells.toList.length)).toArray) := by
  have := run_storeCells_at (P := P) b p e u.cells.toList 0 cur w hb (by simpa [hu] using hle) h1
  simp only [Nat.add_zero] at this
  simp only [Instr.storeAt, Instr.sureAddr, storeVar, Sem.run_bind, Sem.run_pure, Result.andThen_ok, run_szP hs, hu, ne_eq, not_true, if_false, this]
section
variable {P : Program} {w : World} {l : Ls} {g : Gs} {bl bg : Bl}
/-- An element of an object is written: what the object is then. -/
theorem writeO_spec {m : Mp} {o o' : Ob} {b i j : Nat} {cs : List AV} {us : List Value} {cur : Array Value} {e : TypeId} (ho : ObR w m o b) (hb : blk w b cur e) (h : writeO o i j cs = some o') (hcs : ∀ c ∈ cs, c.isCell = true) (hl : us.length = cs.length)
    (hv : ∀ (p : Nat) (c : AV) (u : Value), cs[p]? = some c → us[p]? = some u → VR w m c u) :
    o.fz = false ∧ o'.k = o.k ∧ o'.arr = o.arr ∧ o'.fz = o.fz ∧ o'.xs.length = o.xs.length ∧ i * o.k + j + us.length ≤ cur.size ∧ (∀ x ∈ o'.xs, x.cells.length = o'.k ∧ x.known = true) ∧ (o'.ok = true → ∀ x ∈ o'.xs, x.good = true) ∧
    (∀ (p q : Nat) (x c : AV), o'.xs[p]? = some x → x.cells[q]? = some c → ∃ u, (cur.toList.take (i * o.k + j) ++ us ++ cur.toList.drop (i * o.k + j + us.length)).toArray[p * o'.k + q]? = some u ∧ VR w m c u) ∧
    ∀ x ∈ o'.xs, ∀ c ∈ x.cells, c ∈ cs ∨ ∃ y ∈ o.xs, c ∈ y.cells := by
  unfold writeO at h
  split at h
  · cases h
  · rename_i hfz
    simp only [Option.bind_eq_some_iff] at h
    obtain ⟨y, hy, y', hy', h⟩ := h
    injection h with h
    subst h
    have hyk := ho.len y (List.mem_of_getElem? hy)
    obtain ⟨s1, s2, s3, s4⟩ := setP_spec hy' hyk.2 hcs
    obtain ⟨cs', e', hb', hsz, hc⟩ := ho.mem
    have hcur : cs' = cur := by
      unfold blk at hb hb'
      rw [hb] at hb'
      injection hb' with hb'
      injection hb' with e1 e2
      exact e1.symm
    subst hcur
    have hi := getElem?_lt hy
    have hmul : (i + 1) * o.k ≤ o.xs.length * o.k := Nat.mul_le_mul_right _ hi
    rw [Nat.add_mul] at hmul
    rw [hyk.1] at s3
    have hroom : i * o.k + j + us.length ≤ cs'.size := by omega
    have hget := mid_get (cur := cs'.toList) (vs := us) (off := i * o.k + j) (by simpa using hroom)
    refine ⟨by simpa using hfz, rfl, rfl, rfl, by simp, hroom, fun x hx => ?_, fun hk x hx => ?_, fun p q x c hx hcc => ?_, fun x hx c hcm => ?_⟩
    · rcases List.mem_or_eq_of_mem_set hx with h1 | h1
      · exact ho.len x h1
      · subst h1; exact ⟨by rw [s2]; exact hyk.1, s1⟩
    · simp only [Bool.and_eq_true] at hk
      rcases List.mem_or_eq_of_mem_set hx with h1 | h1
      · exact ho.ok hk.1 x h1
      · subst h1; exact hk.2
    · rw [hget]
      by_cases hpi : p = i
      · subst hpi
        rw [List.getElem?_set_self hi] at hx
        injection hx with hx
        subst hx
        rcases s4 q c hcc with ⟨t1, t2, t3⟩ | ⟨t1, t2⟩
        · rw [if_pos (by simp only; omega)]
          have hlt : q - j < us.length := by rw [hl]; exact getElem?_lt t3
          refine ⟨us[q - j], ?_, hv (q - j) c _ t3 (by simp [hlt])⟩
          rw [show p * o.k + q - (p * o.k + j) = q - j by omega]
          simp [hlt]
        · rw [if_neg (by simp only; omega)]
          obtain ⟨v, hv', hr⟩ := hc p q y c hy t2
          exact ⟨v, by simpa using hv', hr⟩
      · rw [List.getElem?_set_ne (Ne.symm hpi)] at hx
        have hq := getElem?_lt hcc
        rw [(ho.len x (List.mem_of_getElem? hx)).1] at hq
        have : ¬ (i * o.k + j ≤ p * o.k + q ∧ p * o.k + q < i * o.k + j + us.length) := by
          rintro ⟨h1, h2⟩
          rcases Nat.lt_or_ge p i with h3 | h3
          · have : (p + 1) * o.k ≤ i * o.k := Nat.mul_le_mul_right _ h3
            rw [Nat.add_mul] at this; omega
          · have : (i + 1) * o.k ≤ p * o.k := Nat.mul_le_mul_right _ (by omega)
            rw [Nat.add_mul] at this; omega
        rw [if_neg this]
        obtain ⟨v, hv', hr⟩ := hc p q x c hx hcc
        exact ⟨v, by simpa using hv', hr⟩
    · rcases List.mem_or_eq_of_mem_set hx with h1 | h1
      · exact .inr ⟨x, h1, hcm⟩
      · subst h1
        obtain ⟨q, hq⟩ := List.getElem?_of_mem hcm
        rcases s4 q c hq with ⟨t1, t2, t3⟩ | ⟨t1, t2⟩
        · exact .inl (List.mem_of_getElem? t3)
        · exact .inr ⟨y, List.mem_of_getElem? hy, List.mem_of_getElem? t2⟩
theorem storeG_does (h : SR w l g bl bg) {t : TypeId} {s r i j : Nat} (hs : szP P t = some s) {a u : Value} (ha : VR w (mkM w l g bl bg) (.gp r i j) a) {v : AV} (hv : VR w (mkM w l g bl bg) v u) (hk : v.known = true) (hl : v.cells.length = s) (hcl : ∀ c ∈ v.cells, c.gclC = true)
    {o o' : Ob} (ho : g[r]? = some o) (hw : writeO o i j v.cells = some o') : Does P w l g bl bg (do Instr.storeAt t a u; pure (.tuple #[])) (.tup []) l (g.set r o') [r] := by
  cases ha with
  | gp _ _ _ b k hb =>
  simp only [mkM, ho] at hb
  split at hb
  · cases hb
  · rename_i harr
    injection hb with hb
    injection hb with e1 e2
    subst e1 e2
    obtain ⟨hob, hG⟩ := h.og r o ho
    obtain ⟨cur, e, hblk, _, _⟩ := hob.mem
    have hc := hv.csr hk
    obtain ⟨q1, q2, q3, q4, q5, q6, q7, q8, q9, q10⟩ := writeO_spec hob hblk hw hc.cell (us := u.cells.toList) (by simpa using hc.len.symm) fun p c x hp hx => hc.val p c x hp (by simpa using hx)
    have harr' : o.arr = false := by simpa using harr
    have hst := Stp.writeG h ho harr' o' q2 (by rw [q3, harr']) q5 ⟨fun hh => absurd (hh.symm.trans (q3.trans harr')) (by simp), fun x hx c hcm => ?_⟩ cur _ e hblk (mid_size (by simpa using q6)) q7 q8 q9
    · have hone : ∀ y ∈ u.cells.toList, y.oneCell' = true := fun y hy => by
        obtain ⟨p, hp⟩ := List.getElem?_of_mem hy
        have hlt := getElem?_lt hp
        have hlt' : p < v.cells.length := by rw [hc.len]; simpa using hlt
        have hcc : v.cells[p]? = some v.cells[p] := by simp
        exact (hc.val p _ y hcc (by simpa using hp)).cell (hc.cell _ (List.mem_of_getElem? hcc))
      have hrun := storeAt_run (P := P) (t := t) (p := i * o.k + j) hblk hs (u := u) (by rw [← hc.len, hl]) hone (by rw [← hl, hc.len]; simpa using q6)
      exact ⟨.tuple #[], _, bl, bg, by simp only [Sem.run_bind, hrun, Result.andThen_ok, Sem.run_pure], hst, .tup [] #[] rfl (by simp)⟩
    · rcases q10 x hx c hcm with h1 | ⟨y, h1, h2⟩
      · exact hcl c h1
      · exact hG.cl y h1 c h2
theorem storeA_does (h : SR w l g bl bg) {t : TypeId} {s : Nat} (hs : szP P t = some s) {a v : AV} {r : R} (hr : storeA l g s a v = some r) {ua u : Value} (ha : VR w (mkM w l g bl bg) a ua) (hv : VR w (mkM w l g bl bg) v u) :
    Does P w l g bl bg (do Instr.storeAt t ua u; pure (.tuple #[])) r.v r.l r.g r.wg := by
  unfold storeA at hr
  split at hr
  · rename_i hk
    obtain ⟨hk, hl⟩ := hk
    have viaG : ∀ {rr i j : Nat}, VR w (mkM w l g bl bg) (.gp rr i j) ua → ∀ {fp : Fp}, ((expV true v ⟨l, g, .no⟩).bind fun (v, x) => (x.g[rr]?).bind fun o => (writeO o i j v.cells).bind fun o' => some (⟨.tup [], x.l, x.g.set rr o', fp, [rr]⟩ : R)) = some { r with fp := fp } →
        Does P w l g bl bg (do Instr.storeAt t ua u; pure (.tuple #[])) r.v r.l r.g r.wg := fun {rr i j} hgp fp he => by
      simp only [Option.bind_eq_some_iff] at he
      obtain ⟨⟨v', x⟩, he1, o, ho, o', ho', he⟩ := he
      injection he with he
      simp only [R.mk.injEq] at he
      obtain ⟨e1, e2, e3, _, e5⟩ := he
      obtain ⟨bg', s1, v1, q1, q2, q3⟩ := expV_spec true v _ v' x he1 trivial bg u h hv
      have := storeG_does (P := P) s1.sr hs (hgp.mono s1.le) v1 q1 (by rw [q2]; exact hl) q3 ho ho'
      rw [← e1, ← e2, ← e3, ← e5]
      exact Does.after s1 this rfl
    split at hr
    · rename_i d ver i j
      split at hr
      · rename_i w' o hlo
        split at hr
        · rename_i e
          subst e
          simp only [Option.bind_eq_some_iff] at hr
          obtain ⟨o', ho', hr⟩ := hr
          injection hr with hr
          subst hr
          cases ha with
          | lp _ _ _ _ ad c1 c2 =>
          have := c2 (by simp [mkM, hlo, LO.ver]) (bl d) o.k (by simp [mkM, hlo])
          subst this
          have hob := h.ol d w' o hlo
          obtain ⟨cur, e, hblk, _, _⟩ := hob.mem
          have hc := hv.csr hk
          obtain ⟨q1, q2, q3, q4, q5, q6, q7, q8, q9, q10⟩ := writeO_spec hob hblk ho' hc.cell (us := u.cells.toList) (by simpa using hc.len.symm) fun p c x hp hx => hc.val p c x hp (by simpa using hx)
          have hst := Stp.write h hlo q1 o' q2 (by rw [q4, q1]) q5 cur _ e hblk (mid_size (by simpa using q6)) q7 q8 q9
          have hone : ∀ y ∈ u.cells.toList, y.oneCell' = true := fun y hy => by
            obtain ⟨p, hp⟩ := List.getElem?_of_mem hy
            have hlt := getElem?_lt hp
            have hlt' : p < v.cells.length := by rw [hc.len]; simpa using hlt
            have hcc : v.cells[p]? = some v.cells[p] := by simp
            exact (hc.val p _ y hcc (by simpa using hp)).cell (hc.cell _ (List.mem_of_getElem? hcc))
          have hrun := storeAt_run (P := P) (t := t) (p := i * o.k + j) hblk hs (u := u) (by rw [← hc.len, hl]) hone (by rw [← hl, hc.len]; simpa using q6)
          exact ⟨.tuple #[], _, bl, bg, by simp only [Sem.run_bind, hrun, Result.andThen_ok, Sem.run_pure], hst, .tup [] #[] rfl (by simp)⟩
        · cases hr
      · rename_i w' rr hlo
        split at hr
        · rename_i e
          subst e
          have hgp : VR w (mkM w l g bl bg) (.gp rr i j) ua := by
            cases ha with
            | lp _ _ _ _ ad c1 c2 =>
            obtain ⟨o, ho, harr⟩ := h.fw d w' rr hlo
            have := c2 (by simp [mkM, hlo, LO.ver]) (bg rr) o.k (by simp [mkM, hlo, ho])
            subst this
            exact .gp rr i j (bg rr) o.k (by simp [mkM, ho, harr])
          refine viaG hgp (fp := r.fp) ?_
          simp only [Option.bind_eq_some_iff] at hr ⊢
          obtain ⟨p, hp, o, ho, o', ho', hr⟩ := hr
          refine ⟨p, hp, o, ho, o', ho', ?_⟩
          injection hr with hr
          subst hr
          rfl
        · cases hr
      · cases hr
    · refine viaG ha (fp := r.fp) ?_
      simp only [Option.bind_eq_some_iff] at hr ⊢
      obtain ⟨p, hp, o, ho, o', ho', hr⟩ := hr
      refine ⟨p, hp, o, ho, o', ho', ?_⟩
      injection hr with hr
      subst hr
      rfl
    · cases hr
  · cases hr
end
end Go.AE
