import Derived.Test.YtmomeccgdpidiaaAe2
/-! A frame's objects in the machine's memory. -/
namespace Go.AE
open Go.RowKit

/-- A cell that leads to no object of a frame. -/
def AV.gclC : AV → Bool
  | .lp .. | .ls .. | .rp .. | .agg _ | .tup _ | .own .. | .dead => false
  | .fn _ fs cs => fs.all AV.good && cs.all AV.gclI
  | _ => true
/-- Where the objects lie; and the cells of others that nobody writes to. -/
structure Bl where
  f : Nat → Nat
  J : Nat → Nat → Prop
instance : CoeFun Bl (fun _ => Nat → Nat) := ⟨Bl.f⟩
def mkM (w : World) (l : Ls) (g : Gs) (bl bg : Bl) : Mp where
  lv d := (lo l d).ver
  lb d := match lo l d with
    | .ob _ o => some (bl d, o.k)
    | .fwd _ r => (g[r]?).map fun o => (bg r, o.k)
    | .gone _ => none
  gb r := match g[r]? with
    | some o => if o.arr then none else some (bg r, o.k)
    | none => none
  ga r := match g[r]? with
    | some o => if o.arr then some (o.k, o.xs, bg r) else none
    | none => none
  I b p := (b < w.heap.size ∧ bl.J b p) ∧ (∀ d v o, lo l d = .ob v o → bl d = b → o.fz = true ∧ p < o.xs.length * o.k) ∧ (∀ r o, g[r]? = some o → bg r = b → o.arr = true ∧ p < o.xs.length * o.k)
/-- An object lies in a block. -/
structure ObR (w : World) (m : Mp) (o : Ob) (b : Nat) : Prop where
  len : ∀ x ∈ o.xs, x.cells.length = o.k ∧ x.known = true
  ok : o.ok = true → ∀ x ∈ o.xs, x.good = true
  mem : ∃ cs e, blk w b cs e ∧ o.xs.length * o.k ≤ cs.size ∧ ∀ (i j : Nat) (x c : AV), o.xs[i]? = some x → x.cells[j]? = some c → ∃ v, cs[i * o.k + j]? = some v ∧ VR w m c v
theorem ObR.mono {w w' : World} {m m' : Mp} {o : Ob} {b : Nat} (h : ObR w m o b) (hl : Le w w' m m') (hb : w'.heap[b]? = w.heap[b]?) : ObR w' m' o b := by
  obtain ⟨cs, e, h1, h2, h3⟩ := h.mem
  refine ⟨h.len, h.ok, cs, e, by unfold blk; rw [hb]; exact h1, h2, fun i j x c hx hc => ?_⟩
  obtain ⟨v, hv, hr⟩ := h3 i j x c hx hc
  exact ⟨v, hv, hr.mono hl⟩
theorem blk_lt {w : World} {b : Nat} {cs : Array Value} {e : TypeId} (h : blk w b cs e) : b < w.heap.size := (Array.getElem?_eq_some_iff.1 h).1
theorem ObR.lt {w : World} {m : Mp} {o : Ob} {b : Nat} (h : ObR w m o b) : b < w.heap.size := by
  obtain ⟨cs, e, h1, _⟩ := h.mem
  exact blk_lt h1
structure GOk (o : Ob) : Prop where
  ok : o.arr = true → o.ok = true
  cl : ∀ x ∈ o.xs, ∀ c ∈ x.cells, c.gclC = true
structure SR (w : World) (l : Ls) (g : Gs) (bl bg : Bl) : Prop where
  ol : ∀ d v o, lo l d = .ob v o → ObR w (mkM w l g bl bg) o (bl d)
  og : ∀ (r : Nat) (o : Ob), g[r]? = some o → ObR w (mkM w l g bl bg) o (bg r) ∧ GOk o
  fw : ∀ d v r, lo l d = .fwd v r → ∃ o, g[r]? = some o ∧ o.arr = false
  dll : ∀ d e v o v' o', lo l d = .ob v o → lo l e = .ob v' o' → bl d = bl e → d = e
  dgg : ∀ r s, r < g.length → s < g.length → bg r = bg s → r = s
  dlg : ∀ d v o r, lo l d = .ob v o → r < g.length → bl d ≠ bg r
  jn : ∀ b p, w.heap.size ≤ b → bl.J b p
  jl : ∀ d v o p, lo l d = .ob v o → bl.J (bl d) p
  jg : ∀ (r : Nat) (o : Ob) (p : Nat), g[r]? = some o → o.arr = true → bl.J (bg r) p
def upd (f : Bl) (d b : Nat) : Bl := ⟨fun e => if e = d then b else f e, f.J⟩
@[simp] theorem upd_same (f : Bl) (d b : Nat) : upd f d b d = b := by simp [upd]
theorem upd_ne (f : Bl) {d e : Nat} (b : Nat) (h : e ≠ d) : upd f d b e = f e := by simp [upd, h]
theorem SR.bg_lt {w : World} {l : Ls} {g : Gs} {bl bg : Bl} (h : SR w l g bl bg) {r : Nat} (hr : r < g.length) : bg r < w.heap.size :=
  (h.og r g[r] (by simp [hr])).1.lt
theorem cell_blk {w : World} {b : Nat} {cs : Array Value} {e : TypeId} (h : blk w b cs e) (p : Nat) : w.cell? ⟨b, p, none⟩ = cs[p]? := by
  unfold blk at h
  simp [World.cell?, h]

/-! ### 1. A new object for a slot -/
theorem SR.new {w : World} {l : Ls} {g : Gs} {bl bg : Bl} (h : SR w l g bl bg) (d : Nat) (o : Ob) (cs : Array Value) (e : TypeId)
    (hlen : ∀ x ∈ o.xs, x.cells.length = o.k ∧ x.known = true) (hok : o.ok = true → ∀ x ∈ o.xs, x.good = true) (hs : o.xs.length * o.k ≤ cs.size)
    (hc : ∀ (i j : Nat) (x c : AV), o.xs[i]? = some x → x.cells[j]? = some c → ∃ v, cs[i * o.k + j]? = some v ∧ VR w (mkM w l g bl bg) c v) :
    SR (w.alloc (.cells cs e)) (loPut l d (.ob ((lo l d).ver + 1) o)) g (upd bl d w.heap.size) bg ∧
    Le w (w.alloc (.cells cs e)) (mkM w l g bl bg) (mkM (w.alloc (.cells cs e)) (loPut l d (.ob ((lo l d).ver + 1) o)) g (upd bl d w.heap.size) bg) := by
  have hold : ∀ b, b < w.heap.size → (w.alloc (.cells cs e)).heap[b]? = w.heap[b]? := fun b hb => Below.heap_alloc w _ b hb
  have hnew : blk (w.alloc (.cells cs e)) w.heap.size cs e := by
    show (w.heap.push _)[w.heap.size]? = _
    simp
  have hle : Le w (w.alloc (.cells cs e)) (mkM w l g bl bg) (mkM (w.alloc (.cells cs e)) (loPut l d (.ob ((lo l d).ver + 1) o)) g (upd bl d w.heap.size) bg) := by
    refine ⟨fun f => ?_, fun f hf x hx => ?_, fun r x hx => hx, fun r k xs b hx => ⟨[], b, by rw [List.append_nil]; exact hx, fun _ => rfl⟩, fun b p hI => ⟨⟨?_, fun f v o' hf hb => ?_, hI.2.2⟩, fun v hv => ?_⟩, fun b c e' hb => ⟨c, ?_, rfl⟩⟩
    · simp only [mkM, lo_put]
      split
      · rename_i hfd; subst hfd; simp [LO.ver]
      · exact Nat.le_refl _
    · by_cases hfd : f = d
      · subst hfd
        simp [mkM, LO.ver] at hf
      · simp only [mkM, lo_put_ne _ _ hfd, upd_ne _ _ hfd] at hx ⊢
        exact hx
    · simp only [World.size_alloc]
      exact ⟨Nat.lt_succ_of_lt hI.1.1, hI.1.2⟩
    · by_cases hfd : f = d
      · subst hfd
        simp only [upd_same] at hb
        exact absurd hb (by have := hI.1.1; omega)
      · rw [lo_put_ne _ _ hfd] at hf
        rw [upd_ne _ _ hfd] at hb
        exact hI.2.1 f v o' hf hb
    · rw [World.cell?_alloc_lt _ _ _ hI.1.1]
      exact hv
    · unfold blk
      rw [hold b (blk_lt hb)]
      exact hb
  refine ⟨⟨fun f v o' hf => ?_, fun r o' hr => ?_, fun f v r hf => ?_, fun f f' v o' v' o'' hf hf' hb => ?_, h.dgg, fun f v o' r hf hr => ?_, fun b p hb => h.jn b p (Nat.le_trans (by simp) hb), fun f v o' p hf => ?_, h.jg⟩, hle⟩
  · by_cases hfd : f = d
    · subst hfd
      rw [lo_put_same] at hf
      injection hf with hv ho
      subst ho
      rw [upd_same]
      refine ⟨hlen, hok, cs, e, hnew, hs, fun i j x c hx hcc => ?_⟩
      obtain ⟨u, hu, hr⟩ := hc i j x c hx hcc
      exact ⟨u, hu, hr.mono hle⟩
    · rw [lo_put_ne _ _ hfd] at hf
      rw [upd_ne _ _ hfd]
      have := h.ol f v o' hf
      exact this.mono hle (hold _ this.lt)
  · have := h.og r o' hr
    exact ⟨this.1.mono hle (hold _ this.1.lt), this.2⟩
  · by_cases hfd : f = d
    · subst hfd
      rw [lo_put_same] at hf
      cases hf
    · rw [lo_put_ne _ _ hfd] at hf
      exact h.fw f v r hf
  · by_cases h1 : f = d
    · by_cases h2 : f' = d
      · rw [h1, h2]
      · rw [lo_put_ne _ _ h2] at hf'
        rw [h1, upd_same, upd_ne _ _ h2] at hb
        exact absurd (h.ol f' v' o'' hf').lt (by omega)
    · rw [lo_put_ne _ _ h1] at hf
      by_cases h2 : f' = d
      · rw [h2, upd_same, upd_ne _ _ h1] at hb
        exact absurd (h.ol f v o' hf).lt (by omega)
      · rw [lo_put_ne _ _ h2] at hf'
        rw [upd_ne _ _ h1, upd_ne _ _ h2] at hb
        exact h.dll f f' v o' v' o'' hf hf' hb
  · by_cases hfd : f = d
    · rw [hfd, upd_same]
      exact fun hb => absurd (h.bg_lt hr) (by omega)
    · rw [lo_put_ne _ _ hfd] at hf
      rw [upd_ne _ _ hfd]
      exact h.dlg f v o' r hf hr
  · by_cases hfd : f = d
    · show bl.J _ _
      rw [hfd, upd_same]
      exact h.jn _ _ (Nat.le_refl _)
    · rw [lo_put_ne _ _ hfd] at hf
      show bl.J _ _
      rw [upd_ne _ _ hfd]
      exact h.jl f v o' p hf

/-! ### 2. The world moves on, the objects stay -/
theorem SR.keep {w w' : World} {l : Ls} {g : Gs} {bl bg : Bl} (h : SR w l g bl bg) (hs : w.heap.size ≤ w'.heap.size) (hb : ∀ b, b < w.heap.size → w'.heap[b]? = w.heap[b]?) :
    SR w' l g bl bg ∧ Le w w' (mkM w l g bl bg) (mkM w' l g bl bg) := by
  have hle : Le w w' (mkM w l g bl bg) (mkM w' l g bl bg) :=
    ⟨fun _ => Nat.le_refl _, fun _ _ _ hx => hx, fun _ _ hx => hx, fun _ _ _ b hx => ⟨[], b, by rw [List.append_nil]; exact hx, fun _ => rfl⟩,
      fun b p hI => ⟨⟨⟨Nat.lt_of_lt_of_le hI.1.1 hs, hI.1.2⟩, hI.2⟩, fun v hv => by rw [World.cell?_of_block (w := w) (hb b hI.1.1)]; exact hv⟩, fun b c e' hc => ⟨c, by unfold blk; rw [hb b (blk_lt hc)]; exact hc, rfl⟩⟩
  exact ⟨⟨fun d v o hd => (h.ol d v o hd).mono hle (hb _ (h.ol d v o hd).lt), fun r o hr => ⟨(h.og r o hr).1.mono hle (hb _ (h.og r o hr).1.lt), (h.og r o hr).2⟩, h.fw, h.dll, h.dgg, h.dlg, fun b p hb' => h.jn b p (Nat.le_trans hs hb'), h.jl, h.jg⟩, hle⟩

/-! ### 3. A slot's object is written -/
theorem SR.write {w : World} {l : Ls} {g : Gs} {bl bg : Bl} (h : SR w l g bl bg) {d v : Nat} {o : Ob} (hd : lo l d = .ob v o) (hfz : o.fz = false) (o' : Ob) (hk : o'.k = o.k) (hf' : o'.fz = false) (hxl : o'.xs.length = o.xs.length)
    (cs0 cs : Array Value) (e : TypeId) (hb : blk w (bl d) cs0 e) (hsz : cs.size = cs0.size)
    (hlen : ∀ x ∈ o'.xs, x.cells.length = o'.k ∧ x.known = true) (hok : o'.ok = true → ∀ x ∈ o'.xs, x.good = true)
    (hc : ∀ (i j : Nat) (x c : AV), o'.xs[i]? = some x → x.cells[j]? = some c → ∃ u, cs[i * o'.k + j]? = some u ∧ VR w (mkM w l g bl bg) c u) :
    SR (w.setRow (bl d) cs) (loPut l d (.ob v o')) g bl bg ∧ Le w (w.setRow (bl d) cs) (mkM w l g bl bg) (mkM (w.setRow (bl d) cs) (loPut l d (.ob v o')) g bl bg) := by
  have hold : ∀ b, b ≠ bl d → (w.setRow (bl d) cs).heap[b]? = w.heap[b]? := fun b hn => setRow_other w _ b cs hn
  have hnew : blk (w.setRow (bl d) cs) (bl d) cs e := setRow_heap w _ cs0 cs e _ hb
  have hle : Le w (w.setRow (bl d) cs) (mkM w l g bl bg) (mkM (w.setRow (bl d) cs) (loPut l d (.ob v o')) g bl bg) := by
    refine ⟨fun f => ?_, fun f hf x hx => ?_, fun r x hx => hx, fun r k xs b hx => ⟨[], b, by rw [List.append_nil]; exact hx, fun _ => rfl⟩, fun b p hI => ⟨⟨?_, fun f v' o'' hf hbb => ?_, hI.2.2⟩, fun u hu => ?_⟩, fun b c e' hbb => ?_⟩
    · simp only [mkM, lo_put]
      split
      · rename_i hfd; subst hfd; simp [LO.ver, hd]
      · exact Nat.le_refl _
    · by_cases hfd : f = d
      · subst hfd
        simp only [mkM, lo_put_same, hd] at hx ⊢
        rw [← hk]; exact hx
      · simp only [mkM, lo_put_ne _ _ hfd] at hx ⊢
        exact hx
    · exact ⟨by simpa using hI.1.1, hI.1.2⟩
    · by_cases hfd : f = d
      · subst hfd
        exact absurd (hI.2.1 _ v o hd hbb).1 (by simp [hfz])
      · rw [lo_put_ne _ _ hfd] at hf
        exact hI.2.1 f v' o'' hf hbb
    · have hbd : b ≠ bl d := fun e1 => absurd (hI.2.1 d v o hd e1.symm).1 (by simp [hfz])
      rw [cell_setRow_other w _ cs _ hbd]
      exact hu
    · by_cases hbd : b = bl d
      · subst hbd
        unfold blk at hbb hb
        rw [hb] at hbb
        injection hbb with hbb
        injection hbb with h1 h2
        subst h1 h2
        exact ⟨cs, hnew, hsz⟩
      · exact ⟨c, by unfold blk; rw [hold b hbd]; exact hbb, rfl⟩
  refine ⟨⟨fun f v' o'' hf => ?_, fun r o'' hr => ?_, fun f v' r hf => ?_, fun f f' v1 o1 v2 o2 hf hf2 hbb => ?_, h.dgg, fun f v1 o1 r hf hr => ?_, fun b p hb' => h.jn b p (by simpa using hb'), fun f v1 o1 p hf => ?_, h.jg⟩, hle⟩
  · by_cases hfd : f = d
    · subst hfd
      rw [lo_put_same] at hf
      injection hf with hv ho
      subst ho
      obtain ⟨c0, e0, hb0, hs0, _⟩ := (h.ol f v o hd).mem
      refine ⟨hlen, hok, cs, e, hnew, ?_, fun i j x c hx hcc => ?_⟩
      · unfold blk at hb0 hb
        rw [hb] at hb0
        injection hb0 with hb0
        injection hb0 with h1 h2
        subst h1
        rw [hsz, hxl, hk]; exact hs0
      · obtain ⟨u, hu, hr⟩ := hc i j x c hx hcc
        exact ⟨u, hu, hr.mono hle⟩
    · rw [lo_put_ne _ _ hfd] at hf
      have := h.ol f v' o'' hf
      exact this.mono hle (hold _ fun hbb => hfd (h.dll f d v' o'' v o hf hd hbb))
  · have := h.og r o'' hr
    exact ⟨this.1.mono hle (hold _ fun hbb => h.dlg d v o r hd (by
      rcases Nat.lt_or_ge r g.length with h1 | h1
      · exact h1
      · rw [List.getElem?_eq_none h1] at hr; cases hr) hbb.symm), this.2⟩
  · by_cases hfd : f = d
    · subst hfd
      rw [lo_put_same] at hf
      cases hf
    · rw [lo_put_ne _ _ hfd] at hf
      exact h.fw f v' r hf
  · have key : ∀ f v1 o1, lo (loPut l d (.ob v o')) f = .ob v1 o1 → ∃ v2 o2, lo l f = .ob v2 o2 := fun f v1 o1 hf => by
      by_cases hfd : f = d
      · subst hfd; exact ⟨v, o, hd⟩
      · rw [lo_put_ne _ _ hfd] at hf; exact ⟨v1, o1, hf⟩
    obtain ⟨a1, a2, ha⟩ := key f v1 o1 hf
    obtain ⟨b1, b2, hb'⟩ := key f' v2 o2 hf2
    exact h.dll f f' a1 a2 b1 b2 ha hb' hbb
  · by_cases hfd : f = d
    · subst hfd
      exact h.dlg _ v o r hd hr
    · rw [lo_put_ne _ _ hfd] at hf
      exact h.dlg f v1 o1 r hf hr
  · by_cases hfd : f = d
    · subst hfd
      exact h.jl _ v o p hd
    · rw [lo_put_ne _ _ hfd] at hf
      exact h.jl f v1 o1 p hf

/-! ### 4. An object of G is written -/
theorem getElem?_lt {α : Type} {l : List α} {r : Nat} {o : α} (h : l[r]? = some o) : r < l.length := by
  rcases Nat.lt_or_ge r l.length with h1 | h1
  · exact h1
  · rw [List.getElem?_eq_none h1] at h; cases h
theorem SR.writeG {w : World} {l : Ls} {g : Gs} {bl bg : Bl} (h : SR w l g bl bg) {r : Nat} {o : Ob} (hr : g[r]? = some o) (harr : o.arr = false) (o' : Ob) (hk : o'.k = o.k) (ha' : o'.arr = false) (hxl : o'.xs.length = o.xs.length)
    (hG : GOk o') (cs0 cs : Array Value) (e : TypeId) (hb : blk w (bg r) cs0 e) (hsz : cs.size = cs0.size)
    (hlen : ∀ x ∈ o'.xs, x.cells.length = o'.k ∧ x.known = true) (hok : o'.ok = true → ∀ x ∈ o'.xs, x.good = true)
    (hc : ∀ (i j : Nat) (x c : AV), o'.xs[i]? = some x → x.cells[j]? = some c → ∃ u, cs[i * o'.k + j]? = some u ∧ VR w (mkM w l g bl bg) c u) :
    SR (w.setRow (bg r) cs) l (g.set r o') bl bg ∧ Le w (w.setRow (bg r) cs) (mkM w l g bl bg) (mkM (w.setRow (bg r) cs) l (g.set r o') bl bg) := by
  have hrl := getElem?_lt hr
  have hold : ∀ b, b ≠ bg r → (w.setRow (bg r) cs).heap[b]? = w.heap[b]? := fun b hn => setRow_other w _ b cs hn
  have hnew : blk (w.setRow (bg r) cs) (bg r) cs e := setRow_heap w _ cs0 cs e _ hb
  have hget : ∀ s, (g.set r o')[s]? = if s = r then some o' else g[s]? := fun s => by
    rw [List.getElem?_set]
    by_cases hs : r = s
    · subst hs; simp [hrl]
    · simp [hs, Ne.symm hs]
  have hle : Le w (w.setRow (bg r) cs) (mkM w l g bl bg) (mkM (w.setRow (bg r) cs) l (g.set r o') bl bg) := by
    refine ⟨fun f => Nat.le_refl _, fun f hf x hx => ?_, fun s x hx => ?_, fun s k xs b hx => ⟨[], b, ?_, fun _ => rfl⟩, fun b p hI => ⟨⟨?_, hI.2.1, fun s o'' hs hbb => ?_⟩, fun u hu => ?_⟩, fun b c e' hbb => ?_⟩
    · simp only [mkM] at hx ⊢
      split <;> rename_i hlo <;> simp only [hlo] at hx
      · exact hx
      · rename_i v s
        rw [hget] at hx
        by_cases hs : s = r
        · subst hs
          rw [hr]
          simp only [if_true, Option.map_some] at hx ⊢
          rw [← hk]; exact hx
        · rw [if_neg hs] at hx; exact hx
      · exact hx
    · simp only [mkM, hget] at hx ⊢
      by_cases hs : s = r
      · subst hs
        simp only [if_true, hr, harr, ha', hk] at hx ⊢
        exact hx
      · simp only [if_neg hs] at hx ⊢; exact hx
    · simp only [mkM, hget] at hx ⊢
      by_cases hs : s = r
      · subst hs
        simp [hr, harr] at hx
      · simp only [if_neg hs, List.append_nil] at hx ⊢; exact hx
    · exact ⟨by simpa using hI.1.1, hI.1.2⟩
    · rw [hget] at hs
      by_cases hsr : s = r
      · subst hsr
        exact absurd (hI.2.2 _ o hr hbb).1 (by simp [harr])
      · rw [if_neg hsr] at hs
        exact hI.2.2 s o'' hs hbb
    · have hbd : b ≠ bg r := fun e1 => absurd (hI.2.2 r o hr e1.symm).1 (by simp [harr])
      rw [cell_setRow_other w _ cs _ hbd]
      exact hu
    · by_cases hbd : b = bg r
      · subst hbd
        unfold blk at hbb hb
        rw [hb] at hbb
        injection hbb with hbb
        injection hbb with h1 h2
        subst h1 h2
        exact ⟨cs, hnew, hsz⟩
      · exact ⟨c, by unfold blk; rw [hold b hbd]; exact hbb, rfl⟩
  refine ⟨⟨fun f v' o'' hf => ?_, fun s o'' hs => ?_, fun f v' s hf => ?_, h.dll, fun s t hs ht => h.dgg s t (by simpa using hs) (by simpa using ht), fun f v1 o1 s hf hs => h.dlg f v1 o1 s hf (by simpa using hs), fun b p hb' => h.jn b p (by simpa using hb'), h.jl, fun s o'' p hs ha => ?_⟩, hle⟩
  · have := h.ol f v' o'' hf
    exact this.mono hle (hold _ fun hbb => h.dlg f v' o'' r hf hrl hbb)
  · rw [hget] at hs
    by_cases hsr : s = r
    · subst hsr
      simp only [if_true, Option.some.injEq] at hs
      subst hs
      obtain ⟨c0, e0, hb0, hs0, _⟩ := (h.og s o hr).1.mem
      refine ⟨⟨hlen, hok, cs, e, hnew, ?_, fun i j x c hx hcc => ?_⟩, hG⟩
      · unfold blk at hb0 hb
        rw [hb] at hb0
        injection hb0 with hb0
        injection hb0 with h1 h2
        subst h1
        rw [hsz, hxl, hk]; exact hs0
      · obtain ⟨u, hu, hr'⟩ := hc i j x c hx hcc
        exact ⟨u, hu, hr'.mono hle⟩
    · rw [if_neg hsr] at hs
      have := h.og s o'' hs
      exact ⟨this.1.mono hle (hold _ fun hbb => hsr (h.dgg s r (getElem?_lt hs) hrl hbb)), this.2⟩
  · obtain ⟨o'', hs, ha⟩ := h.fw f v' s hf
    by_cases hsr : s = r
    · subst hsr; exact ⟨o', by rw [hget]; simp, ha'⟩
    · exact ⟨o'', by rw [hget, if_neg hsr]; exact hs, ha⟩
  · rw [hget] at hs
    by_cases hsr : s = r
    · subst hsr
      simp only [if_true, Option.some.injEq] at hs
      subst hs
      rw [ha'] at ha
      cases ha
    · rw [if_neg hsr] at hs
      exact h.jg s o'' p hs ha
end Go.AE
