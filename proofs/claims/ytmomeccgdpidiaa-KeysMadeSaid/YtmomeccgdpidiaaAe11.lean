import Derived.Test.YtmomeccgdpidiaaAe10
/-! Rows that grow. -/
namespace Go.AE
open Go.RowKit
section
variable {w : World} {l : Ls} {g : Gs} {bl bg : Bl}

/-- A slot's row grows where it lies. -/
theorem Stp.growL (h : SR w l g bl bg) {d v : Nat} {o : Ob} (hd : lo l d = .ob v o) (o' : Ob) (hk : o'.k = o.k) (hf' : o'.fz = o.fz) (hxl : o.xs.length ≤ o'.xs.length)
    (cs0 cs : Array Value) (e : TypeId) (hb : blk w (bl d) cs0 e) (hsz : cs.size = cs0.size) (hpre : ∀ p, p < o.xs.length * o.k → cs[p]? = cs0[p]?) (hs : o'.xs.length * o'.k ≤ cs.size)
    (hlen : ∀ x ∈ o'.xs, x.cells.length = o'.k ∧ x.known = true) (hok : o'.ok = true → ∀ x ∈ o'.xs, x.good = true)
    (hc : ∀ (i j : Nat) (x c : AV), o'.xs[i]? = some x → x.cells[j]? = some c → ∃ u, cs[i * o'.k + j]? = some u ∧ VR w (mkM w l g bl bg) c u) :
    Stp w l g bl bg (w.setRow (bl d) cs) (loPut l d (.ob (v + 1) o')) g bl bg [] := by
  have hold : ∀ b, b ≠ bl d → (w.setRow (bl d) cs).heap[b]? = w.heap[b]? := fun b hn => setRow_other w _ b cs hn
  have hnew : blk (w.setRow (bl d) cs) (bl d) cs e := setRow_heap w _ cs0 cs e _ hb
  have hle : Le w (w.setRow (bl d) cs) (mkM w l g bl bg) (mkM (w.setRow (bl d) cs) (loPut l d (.ob (v + 1) o')) g bl bg) := by
    refine ⟨fun f => ?_, fun f hf x hx => ?_, fun r x hx => hx, fun r k xs b hx => ⟨[], b, by rw [List.append_nil]; exact hx, fun _ => rfl⟩, fun b p hI => ⟨⟨?_, fun f v' o'' hf hbb => ?_, hI.2.2⟩, fun u hu => ?_⟩, fun b c e' hbb => ?_⟩
    · simp only [mkM, lo_put]
      split
      · rename_i hfd; subst hfd; simp [LO.ver, hd]
      · exact Nat.le_refl _
    · by_cases hfd : f = d
      · subst hfd
        simp [mkM, LO.ver, hd] at hf
      · simp only [mkM, lo_put_ne _ _ hfd] at hx ⊢
        exact hx
    · exact ⟨by simpa using hI.1.1, hI.1.2⟩
    · by_cases hfd : f = d
      · subst hfd
        rw [lo_put_same] at hf
        injection hf with hv ho
        subst ho
        have := hI.2.1 _ v o hd hbb
        refine ⟨by rw [hf']; exact this.1, Nat.lt_of_lt_of_le this.2 ?_⟩
        rw [hk]
        exact Nat.mul_le_mul_right _ hxl
      · rw [lo_put_ne _ _ hfd] at hf
        exact hI.2.1 f v' o'' hf hbb
    · by_cases hbd : b = bl d
      · subst hbd
        rw [cell_blk hnew, hpre p (hI.2.1 d v o hd rfl).2]
        rw [cell_blk hb] at hu
        exact hu
      · rw [cell_setRow_other w _ cs _ hbd]
        exact hu
    · by_cases hbd : b = bl d
      · subst hbd
        unfold blk at hbb hb
        rw [hb] at hbb
        injection hbb with hbb
        injection hbb with h1 h2
        subst h1 h2
        exact ⟨cs, hnew, hsz⟩
      · exact ⟨c, by unfold blk; rw [hold b hbd]; exact hbb, rfl⟩
  have key : ∀ f v1 o1, lo (loPut l d (.ob (v + 1) o')) f = .ob v1 o1 → ∃ v2 o2, lo l f = .ob v2 o2 := fun f v1 o1 hf => by
    by_cases hfd : f = d
    · subst hfd; exact ⟨v, o, hd⟩
    · rw [lo_put_ne _ _ hfd] at hf; exact ⟨v1, o1, hf⟩
  refine ⟨⟨fun f v' o'' hf => ?_, fun r o'' hr => ?_, fun f v' r hf => ?_, fun f f' v1 o1 v2 o2 hf hf2 hbb => ?_, h.dgg, fun f v1 o1 r hf hr => ?_, fun b p hb' => h.jn b p (by simpa using hb'), fun f v1 o1 p hf => (let ⟨a1, a2, ha⟩ := key f v1 o1 hf; h.jl f a1 a2 p ha), h.jg⟩, hle, fun b _ n1 _ => setRow_other w _ b cs fun e1 => n1 ⟨d, v, o, hd, e1.symm⟩, fun _ o hr => ⟨o, hr, rfl, rfl, fun _ => ⟨rfl, rfl⟩⟩, ?_, fun _ h => .inl h, by simp, rfl, rfl, rfl, rfl, frozen?_setRow hb cs⟩
  · by_cases hfd : f = d
    · subst hfd
      rw [lo_put_same] at hf
      injection hf with hv ho
      subst ho
      refine ⟨hlen, hok, cs, e, hnew, hs, fun i j x c hx hcc => ?_⟩
      obtain ⟨u, hu, hr⟩ := hc i j x c hx hcc
      exact ⟨u, hu, hr.mono hle⟩
    · rw [lo_put_ne _ _ hfd] at hf
      have := h.ol f v' o'' hf
      exact this.mono hle (hold _ fun hbb => hfd (h.dll f d v' o'' v o hf hd hbb))
  · have := h.og r o'' hr
    exact ⟨this.1.mono hle (hold _ fun hbb => h.dlg d v o r hd (getElem?_lt hr) hbb.symm), this.2⟩
  · by_cases hfd : f = d
    · subst hfd
      rw [lo_put_same] at hf
      cases hf
    · rw [lo_put_ne _ _ hfd] at hf
      exact h.fw f v' r hf
  · obtain ⟨a1, a2, ha⟩ := key f v1 o1 hf
    obtain ⟨b1, b2, hb'⟩ := key f' v2 o2 hf2
    exact h.dll f f' a1 a2 b1 b2 ha hb' hbb
  · obtain ⟨a1, a2, ha⟩ := key f v1 o1 hf
    exact h.dlg f a1 a2 r ha hr
  · rintro b ⟨f, v', o'', hf, hbb⟩
    obtain ⟨a1, a2, ha⟩ := key f v' o'' hf
    exact .inl ⟨f, a1, a2, ha, hbb⟩
theorem getElem?_set_if {g : Gs} {r : Nat} {o' : Ob} (hrl : r < g.length) (s : Nat) : (g.set r o')[s]? = if s = r then some o' else g[s]? := by
  rw [List.getElem?_set]
  by_cases hs : r = s
  · subst hs; simp [hrl]
  · simp [hs, Ne.symm hs]
/-- A row of G grows where it lies. -/
theorem Stp.growG (h : SR w l g bl bg) {r : Nat} {o : Ob} (hr : g[r]? = some o) (harr : o.arr = true) (ys : List AV)
    (cs0 cs : Array Value) (e : TypeId) (hb : blk w (bg r) cs0 e) (hsz : cs.size = cs0.size) (hpre : ∀ p, p < o.xs.length * o.k → cs[p]? = cs0[p]?) (hs : (o.xs ++ ys).length * o.k ≤ cs.size)
    (hlen : ∀ x ∈ ys, x.cells.length = o.k ∧ x.good = true)
    (hc : ∀ (i j : Nat) (x c : AV), (o.xs ++ ys)[i]? = some x → x.cells[j]? = some c → ∃ u, cs[i * o.k + j]? = some u ∧ VR w (mkM w l g bl bg) c u) :
    Stp w l g bl bg (w.setRow (bg r) cs) l (g.set r { o with xs := o.xs ++ ys }) bl bg [r] := by
  have hrl := getElem?_lt hr
  have hold : ∀ b, b ≠ bg r → (w.setRow (bg r) cs).heap[b]? = w.heap[b]? := fun b hn => setRow_other w _ b cs hn
  have hnew : blk (w.setRow (bg r) cs) (bg r) cs e := setRow_heap w _ cs0 cs e _ hb
  have hget := getElem?_set_if (g := g) (o' := { o with xs := o.xs ++ ys }) hrl
  have hle : Le w (w.setRow (bg r) cs) (mkM w l g bl bg) (mkM (w.setRow (bg r) cs) l (g.set r { o with xs := o.xs ++ ys }) bl bg) := by
    refine ⟨fun f => Nat.le_refl _, fun f hf x hx => ?_, fun s x hx => ?_, fun s k xs b hx => ?_, fun b p hI => ⟨⟨?_, hI.2.1, fun s o'' hs hbb => ?_⟩, fun u hu => ?_⟩, fun b c e' hbb => ?_⟩
    · simp only [mkM] at hx ⊢
      split <;> rename_i hlo <;> simp only [hlo] at hx
      · exact hx
      · rename_i v s
        rw [hget] at hx
        by_cases hs : s = r
        · subst hs
          rw [hr]
          simpa using hx
        · rw [if_neg hs] at hx; exact hx
      · exact hx
    · simp only [mkM, hget] at hx ⊢
      by_cases hs : s = r
      · subst hs
        simp [hr, harr] at hx
      · simp only [if_neg hs] at hx ⊢; exact hx
    · simp only [mkM, hget] at hx ⊢
      by_cases hs : s = r
      · subst hs
        simp only [hr, harr, if_true, Option.some.injEq, Prod.mk.injEq] at hx
        obtain ⟨rfl, rfl, rfl⟩ := hx
        exact ⟨ys, bg s, by simp [harr], fun _ => rfl⟩
      · simp only [if_neg hs] at hx ⊢
        exact ⟨[], b, by rw [List.append_nil]; exact hx, fun _ => rfl⟩
    · exact ⟨by simpa using hI.1.1, hI.1.2⟩
    · rw [hget] at hs
      by_cases hsr : s = r
      · subst hsr
        simp only [if_true, Option.some.injEq] at hs
        subst hs
        have := hI.2.2 _ o hr hbb
        refine ⟨this.1, Nat.lt_of_lt_of_le this.2 ?_⟩
        simp only [List.length_append, Nat.add_mul]
        omega
      · rw [if_neg hsr] at hs
        exact hI.2.2 s o'' hs hbb
    · by_cases hbd : b = bg r
      · subst hbd
        rw [cell_blk hnew, hpre p (hI.2.2 r o hr rfl).2]
        rw [cell_blk hb] at hu
        exact hu
      · rw [cell_setRow_other w _ cs _ hbd]
        exact hu
    · by_cases hbd : b = bg r
      · subst hbd
        unfold blk at hbb hb
        rw [hb] at hbb
        injection hbb with hbb
        injection hbb with h1 h2
        subst h1 h2
        exact ⟨cs, hnew, hsz⟩
      · exact ⟨c, by unfold blk; rw [hold b hbd]; exact hbb, rfl⟩
  obtain ⟨ho, hG⟩ := h.og r o hr
  have hall : ∀ x ∈ o.xs ++ ys, x.cells.length = o.k ∧ x.good = true := fun x hx => (List.mem_append.1 hx).elim (fun hx => ⟨(ho.len x hx).1, ho.ok (hG.ok harr) x hx⟩) (hlen x)
  refine ⟨⟨fun f v' o'' hf => ?_, fun s o'' hs' => ?_, fun f v' s hf => ?_, h.dll, fun s t hs ht => h.dgg s t (by simpa using hs) (by simpa using ht), fun f v1 o1 s hf hs => h.dlg f v1 o1 s hf (by simpa using hs), fun b p hb' => h.jn b p (by simpa using hb'), h.jl, fun s o'' p hs' ha => ?_⟩, hle, fun b _ _ n2 => setRow_other w _ b cs fun e1 => n2 ⟨r, hrl, e1.symm⟩, fun s o2 hs' => ?_, fun _ h => .inl h, fun b ho => .inl ?_, by simp, rfl, rfl, rfl, rfl, frozen?_setRow hb cs⟩
  · have := h.ol f v' o'' hf
    exact this.mono hle (hold _ fun hbb => h.dlg f v' o'' r hf hrl hbb)
  · rw [hget] at hs'
    by_cases hsr : s = r
    · subst hsr
      simp only [if_true, Option.some.injEq] at hs'
      subst hs'
      refine ⟨⟨fun x hx => ⟨(hall x hx).1, good_known (hall x hx).2⟩, fun _ x hx => (hall x hx).2, cs, e, hnew, hs, fun i j x c hx hcc => ?_⟩, fun _ => hG.ok harr, fun x hx c hcm => goodC_gclC (good_cells (hall x hx).2 c hcm)⟩
      obtain ⟨u, hu, hr'⟩ := hc i j x c hx hcc
      exact ⟨u, hu, hr'.mono hle⟩
    · rw [if_neg hsr] at hs'
      have := h.og s o'' hs'
      exact ⟨this.1.mono hle (hold _ fun hbb => hsr (h.dgg s r (getElem?_lt hs') hrl hbb)), this.2⟩
  · obtain ⟨o'', hs', ha⟩ := h.fw f v' s hf
    by_cases hsr : s = r
    · subst hsr
      rw [hr] at hs'
      injection hs' with hs'
      subst hs'
      rw [harr] at ha
      cases ha
    · exact ⟨o'', by rw [hget, if_neg hsr]; exact hs', ha⟩
  · rw [hget] at hs'
    by_cases hsr : s = r
    · rw [hsr]
      exact h.jg r o p hr harr
    · rw [if_neg hsr] at hs'
      exact h.jg s o'' p hs' ha
  · by_cases hsr : s = r
    · subst hsr
      rw [hr] at hs'
      injection hs' with hs'
      subst hs'
      exact ⟨{ o with xs := o.xs ++ ys }, by simp [hrl], rfl, rfl, fun hn => absurd (by simp) hn⟩
    · exact ⟨o2, by rw [hget, if_neg hsr]; exact hs', rfl, rfl, fun _ => ⟨rfl, rfl⟩⟩
  · obtain ⟨s, hs, hb'⟩ := ho
    exact ⟨s, by simpa using hs, hb'⟩
/-- A row of G grows, and lies elsewhere then. -/
theorem Stp.moveG (h : SR w l g bl bg) {r : Nat} {o : Ob} (hr : g[r]? = some o) (harr : o.arr = true) (ys : List AV) (hys : ys ≠ []) (cs : Array Value) (e : TypeId) (hs : (o.xs ++ ys).length * o.k ≤ cs.size)
    (hlen : ∀ x ∈ ys, x.cells.length = o.k ∧ x.good = true)
    (hc : ∀ (i j : Nat) (x c : AV), (o.xs ++ ys)[i]? = some x → x.cells[j]? = some c → ∃ u, cs[i * o.k + j]? = some u ∧ VR w (mkM w l g bl bg) c u) :
    Stp w l g bl bg (w.alloc (.cells cs e)) l (g.set r { o with xs := o.xs ++ ys }) bl (upd bg r w.heap.size) [r] := by
  have hrl := getElem?_lt hr
  have hold : ∀ b, b < w.heap.size → (w.alloc (.cells cs e)).heap[b]? = w.heap[b]? := fun b hb => Below.heap_alloc w _ b hb
  have hnew : blk (w.alloc (.cells cs e)) w.heap.size cs e := by
    show (w.heap.push _)[w.heap.size]? = _
    simp
  have hget := getElem?_set_if (g := g) (o' := { o with xs := o.xs ++ ys }) hrl
  have hle : Le w (w.alloc (.cells cs e)) (mkM w l g bl bg) (mkM (w.alloc (.cells cs e)) l (g.set r { o with xs := o.xs ++ ys }) bl (upd bg r w.heap.size)) := by
    refine ⟨fun f => Nat.le_refl _, fun f hf x hx => ?_, fun s x hx => ?_, fun s k xs b hx => ?_, fun b p hI => ⟨⟨?_, hI.2.1, fun s o'' hs hbb => ?_⟩, fun u hu => ?_⟩, fun b c e' hbb => ⟨c, ?_, rfl⟩⟩
    · simp only [mkM] at hx ⊢
      split <;> rename_i hlo <;> simp only [hlo] at hx
      · exact hx
      · rename_i v s
        obtain ⟨o2, ho2, ha2⟩ := h.fw f v s hlo
        have hsr : s ≠ r := fun e => by subst e; rw [hr] at ho2; injection ho2 with ho2; subst ho2; rw [harr] at ha2; cases ha2
        rw [hget, if_neg hsr] at hx
        rw [upd_ne _ _ hsr] at hx
        exact hx
      · exact hx
    · simp only [mkM, hget] at hx ⊢
      by_cases hs : s = r
      · subst hs
        simp [hr, harr] at hx
      · simp only [if_neg hs, upd_ne _ _ hs] at hx ⊢; exact hx
    · simp only [mkM, hget] at hx ⊢
      by_cases hs : s = r
      · subst hs
        simp only [hr, harr, if_true, Option.some.injEq, Prod.mk.injEq] at hx
        obtain ⟨rfl, rfl, rfl⟩ := hx
        exact ⟨ys, w.heap.size, by simp [harr], fun e => absurd e hys⟩
      · simp only [if_neg hs, upd_ne _ _ hs] at hx ⊢
        exact ⟨[], b, by rw [List.append_nil]; exact hx, fun _ => rfl⟩
    · simp only [World.size_alloc]
      exact ⟨Nat.lt_succ_of_lt hI.1.1, hI.1.2⟩
    · rw [hget] at hs
      by_cases hsr : s = r
      · subst hsr
        rw [upd_same] at hbb
        exact absurd hbb (by have := hI.1.1; omega)
      · rw [if_neg hsr] at hs
        rw [upd_ne _ _ hsr] at hbb
        exact hI.2.2 s o'' hs hbb
    · rw [World.cell?_alloc_lt _ _ _ hI.1.1]
      exact hu
    · unfold blk
      rw [hold b (blk_lt hbb)]
      exact hbb
  obtain ⟨ho, hG⟩ := h.og r o hr
  have hall : ∀ x ∈ o.xs ++ ys, x.cells.length = o.k ∧ x.good = true := fun x hx => (List.mem_append.1 hx).elim (fun hx => ⟨(ho.len x hx).1, ho.ok (hG.ok harr) x hx⟩) (hlen x)
  refine ⟨⟨fun f v' o'' hf => ?_, fun s o'' hs' => ?_, fun f v' s hf => ?_, h.dll, fun s t hs ht hst => ?_, fun f v1 o1 s hf hs => ?_, fun b p hb' => h.jn b p (Nat.le_trans (by simp) hb'), h.jl, fun s o'' p hs' ha => ?_⟩, hle, fun b hb _ _ => hold b hb, fun s o2 hs' => ?_, fun _ h => .inl h, fun b ho => ?_, by simp, rfl, rfl, rfl, rfl, frozen?_alloc _ _ _⟩
  · have := h.ol f v' o'' hf
    exact this.mono hle (hold _ this.lt)
  · rw [hget] at hs'
    by_cases hsr : s = r
    · subst hsr
      simp only [if_true, Option.some.injEq] at hs'
      subst hs'
      rw [upd_same]
      refine ⟨⟨fun x hx => ⟨(hall x hx).1, good_known (hall x hx).2⟩, fun _ x hx => (hall x hx).2, cs, e, hnew, hs, fun i j x c hx hcc => ?_⟩, fun _ => hG.ok harr, fun x hx c hcm => goodC_gclC (good_cells (hall x hx).2 c hcm)⟩
      obtain ⟨u, hu, hr'⟩ := hc i j x c hx hcc
      exact ⟨u, hu, hr'.mono hle⟩
    · rw [if_neg hsr] at hs'
      rw [upd_ne _ _ hsr]
      have := h.og s o'' hs'
      exact ⟨this.1.mono hle (hold _ this.1.lt), this.2⟩
  · obtain ⟨o'', hs', ha⟩ := h.fw f v' s hf
    by_cases hsr : s = r
    · subst hsr
      rw [hr] at hs'
      injection hs' with hs'
      subst hs'
      rw [harr] at ha
      cases ha
    · exact ⟨o'', by rw [hget, if_neg hsr]; exact hs', ha⟩
  · simp only [List.length_set] at hs ht
    by_cases h1 : s = r
    · by_cases h2 : t = r
      · rw [h1, h2]
      · rw [h1, upd_same, upd_ne _ _ h2] at hst
        exact absurd (h.bg_lt ht) (by omega)
    · by_cases h2 : t = r
      · rw [h2, upd_same, upd_ne _ _ h1] at hst
        exact absurd (h.bg_lt hs) (by omega)
      · rw [upd_ne _ _ h1, upd_ne _ _ h2] at hst
        exact h.dgg s t hs ht hst
  · simp only [List.length_set] at hs
    by_cases h1 : s = r
    · rw [h1, upd_same]
      exact fun hb => absurd (h.ol f v1 o1 hf).lt (by omega)
    · rw [upd_ne _ _ h1]
      exact h.dlg f v1 o1 s hf hs
  · show bl.J _ _
    rw [hget] at hs'
    by_cases hsr : s = r
    · rw [hsr, upd_same]
      exact h.jn _ _ (Nat.le_refl _)
    · rw [if_neg hsr] at hs'
      rw [upd_ne _ _ hsr]
      exact h.jg s o'' p hs' ha
  · by_cases hsr : s = r
    · subst hsr
      rw [hr] at hs'
      injection hs' with hs'
      subst hs'
      exact ⟨{ o with xs := o.xs ++ ys }, by simp [hrl], rfl, rfl, fun hn => absurd (by simp) hn⟩
    · exact ⟨o2, by rw [hget, if_neg hsr]; exact hs', rfl, rfl, fun _ => ⟨rfl, upd_ne _ _ hsr⟩⟩
  · obtain ⟨s, hs, hb'⟩ := ho
    simp only [List.length_set] at hs
    by_cases h1 : s = r
    · rw [h1, upd_same] at hb'
      exact .inr (.inr (by omega))
    · rw [upd_ne _ _ h1] at hb'
      exact .inl ⟨s, hs, hb'⟩
end
end Go.AE
