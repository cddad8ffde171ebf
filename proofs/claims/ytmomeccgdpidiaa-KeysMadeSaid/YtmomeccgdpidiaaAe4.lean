import Derived.Test.YtmomeccgdpidiaaAe3
/-! A step of a frame in the machine's memory. -/
namespace Go.AE
open Go.RowKit

def own1 (l : Ls) (bl : Bl) (b : Nat) : Prop := ∃ d v o, lo l d = .ob v o ∧ bl d = b
def own2 (g : Gs) (bg : Bl) (b : Nat) : Prop := ∃ r, r < g.length ∧ bg r = b
structure Stp (w : World) (l : Ls) (g : Gs) (bl bg : Bl) (w' : World) (l' : Ls) (g' : Gs) (bl' bg' : Bl) (wg : List Nat) : Prop where
  sr : SR w' l' g' bl' bg'
  le : Le w w' (mkM w l g bl bg) (mkM w' l' g' bl' bg')
  same : ∀ b, b < w.heap.size → ¬ own1 l bl b → ¬ own2 g bg b → w'.heap[b]? = w.heap[b]?
  gs : ∀ (r : Nat) (o : Ob), g[r]? = some o → ∃ o', g'[r]? = some o' ∧ o'.k = o.k ∧ o'.arr = o.arr ∧ (r ∉ wg → o' = o ∧ bg' r = bg r)
  l1 : ∀ b, own1 l' bl' b → own1 l bl b ∨ w.heap.size ≤ b
  g1 : ∀ b, own2 g' bg' b → own2 g bg b ∨ own1 l bl b ∨ w.heap.size ≤ b
  size : w.heap.size ≤ w'.heap.size
  os : w'.os = w.os
  tape : w'.tape = w.tape
  output : w'.output = w.output
  J : bl'.J = bl.J
  fz : ∀ a, w'.frozen? a = w.frozen? a
theorem frozen?_alloc (w : World) (c : Array Value) (t : TypeId) (a : Addr) : (w.alloc (.cells c t)).frozen? a = w.frozen? a := by
  by_cases h : a.block = w.heap.size
  · have e1 : (w.alloc (.cells c t)).heap[a.block]? = some (.cells c t) := by rw [h]; exact (MapKept.heap_alloc w _).1
    have e2 : w.heap[a.block]? = none := by rw [h]; simp
    simp [World.frozen?, e1, e2]
  · have e : (w.alloc (.cells c t)).heap[a.block]? = w.heap[a.block]? := by
      by_cases hlt : a.block < w.heap.size
      · exact Below.heap_alloc w _ _ hlt
      · rw [Array.getElem?_eq_none (by simp; omega), Array.getElem?_eq_none (by omega)]
    simp [World.frozen?, e]
theorem frozen?_setRow {w : World} {b : Nat} {cs0 : Array Value} {e : TypeId} (hb : blk w b cs0 e) (cs : Array Value) (a : Addr) : (w.setRow b cs).frozen? a = w.frozen? a := by
  by_cases h : a.block = b
  · have e1 := setRow_heap w _ cs0 cs e _ hb
    unfold blk at hb
    simp [World.frozen?, h, e1, hb]
  · simp [World.frozen?, setRow_other w _ a.block cs h]
section
variable {w : World} {l : Ls} {g : Gs} {bl bg : Bl}
theorem Stp.refl (h : SR w l g bl bg) : Stp w l g bl bg w l g bl bg [] :=
  ⟨h, Le.refl _ _, fun _ _ _ _ => rfl, fun _ o hr => ⟨o, hr, rfl, rfl, fun _ => ⟨rfl, rfl⟩⟩, fun _ h => .inl h, fun _ h => .inl h, Nat.le_refl _, rfl, rfl, rfl, rfl, fun _ => rfl⟩
theorem Stp.trans {w1 : World} {l1 : Ls} {g1 : Gs} {bl1 bg1 : Bl} {w2 : World} {l2 : Ls} {g2 : Gs} {bl2 bg2 : Bl} {a b : List Nat}
    (h : Stp w l g bl bg w1 l1 g1 bl1 bg1 a) (k : Stp w1 l1 g1 bl1 bg1 w2 l2 g2 bl2 bg2 b) : Stp w l g bl bg w2 l2 g2 bl2 bg2 (a ++ b) where
  sr := k.sr
  le := h.le.trans k.le
  same := fun c hc n1 n2 => by
    rw [k.same c (Nat.lt_of_lt_of_le hc h.size) (fun o => (h.l1 c o).elim n1 (by omega)) (fun o => (h.g1 c o).elim n2 fun o => o.elim n1 (by omega)), h.same c hc n1 n2]
  gs := fun r o hr => by
    obtain ⟨o1, h1, k1, a1, e1⟩ := h.gs r o hr
    obtain ⟨o2, h2, k2, a2, e2⟩ := k.gs r o1 h1
    refine ⟨o2, h2, by rw [k2, k1], by rw [a2, a1], fun hn => ?_⟩
    simp only [List.mem_append, not_or] at hn
    rw [(e2 hn.2).1, (e2 hn.2).2]
    exact e1 hn.1
  l1 := fun c o => (k.l1 c o).elim (fun o => h.l1 c o) fun hc => .inr (Nat.le_trans h.size hc)
  g1 := fun c o => (k.g1 c o).elim (fun o => h.g1 c o) fun o => o.elim (fun o => (h.l1 c o).elim (fun o => .inr (.inl o)) fun hc => .inr (.inr hc)) fun hc => .inr (.inr (Nat.le_trans h.size hc))
  size := Nat.le_trans h.size k.size
  os := k.os.trans h.os
  tape := k.tape.trans h.tape
  output := k.output.trans h.output
  J := k.J.trans h.J
  fz := fun a => (k.fz a).trans (h.fz a)
theorem Stp.more {w1 : World} {l1 : Ls} {g1 : Gs} {bl1 bg1 : Bl} {a b : List Nat} (h : Stp w l g bl bg w1 l1 g1 bl1 bg1 a) (hab : ∀ x ∈ a, x ∈ b) : Stp w l g bl bg w1 l1 g1 bl1 bg1 b :=
  ⟨h.sr, h.le, h.same, fun r o hr => let ⟨o', h1, h2, h3, h4⟩ := h.gs r o hr; ⟨o', h1, h2, h3, fun hn => h4 fun hx => hn (hab _ hx)⟩, h.l1, h.g1, h.size, h.os, h.tape, h.output, h.J, h.fz⟩
theorem Stp.new (h : SR w l g bl bg) (d : Nat) (o : Ob) (cs : Array Value) (e : TypeId)
    (hlen : ∀ x ∈ o.xs, x.cells.length = o.k ∧ x.known = true) (hok : o.ok = true → ∀ x ∈ o.xs, x.good = true) (hs : o.xs.length * o.k ≤ cs.size)
    (hc : ∀ (i j : Nat) (x c : AV), o.xs[i]? = some x → x.cells[j]? = some c → ∃ v, cs[i * o.k + j]? = some v ∧ VR w (mkM w l g bl bg) c v) :
    Stp w l g bl bg (w.alloc (.cells cs e)) (loPut l d (.ob ((lo l d).ver + 1) o)) g (upd bl d w.heap.size) bg [] := by
  obtain ⟨h1, h2⟩ := h.new d o cs e hlen hok hs hc
  refine ⟨h1, h2, fun b hb _ _ => Below.heap_alloc w _ b hb, fun _ o hr => ⟨o, hr, rfl, rfl, fun _ => ⟨rfl, rfl⟩⟩, ?_, fun _ h => .inl h, by simp, rfl, rfl, rfl, rfl, frozen?_alloc _ _ _⟩
  rintro b ⟨f, v, o', hf, hb⟩
  by_cases hfd : f = d
  · subst hfd
    rw [upd_same] at hb
    exact .inr (by omega)
  · rw [lo_put_ne _ _ hfd] at hf
    rw [upd_ne _ _ hfd] at hb
    exact .inl ⟨f, v, o', hf, hb⟩
theorem Stp.keep {w' : World} (h : SR w l g bl bg) (hs : w.heap.size ≤ w'.heap.size) (hb : ∀ b, b < w.heap.size → w'.heap[b]? = w.heap[b]?) (ho : w'.os = w.os) (ht : w'.tape = w.tape) (hu : w'.output = w.output) (hz : ∀ a, w'.frozen? a = w.frozen? a) :
    Stp w l g bl bg w' l g bl bg [] :=
  ⟨(h.keep hs hb).1, (h.keep hs hb).2, fun b hb' _ _ => hb b hb', fun _ o hr => ⟨o, hr, rfl, rfl, fun _ => ⟨rfl, rfl⟩⟩, fun _ h => .inl h, fun _ h => .inl h, hs, ho, ht, hu, rfl, hz⟩
theorem Stp.write (h : SR w l g bl bg) {d v : Nat} {o : Ob} (hd : lo l d = .ob v o) (hfz : o.fz = false) (o' : Ob) (hk : o'.k = o.k) (hf' : o'.fz = false) (hxl : o'.xs.length = o.xs.length)
    (cs0 cs : Array Value) (e : TypeId) (hb : blk w (bl d) cs0 e) (hsz : cs.size = cs0.size)
    (hlen : ∀ x ∈ o'.xs, x.cells.length = o'.k ∧ x.known = true) (hok : o'.ok = true → ∀ x ∈ o'.xs, x.good = true)
    (hc : ∀ (i j : Nat) (x c : AV), o'.xs[i]? = some x → x.cells[j]? = some c → ∃ u, cs[i * o'.k + j]? = some u ∧ VR w (mkM w l g bl bg) c u) :
    Stp w l g bl bg (w.setRow (bl d) cs) (loPut l d (.ob v o')) g bl bg [] := by
  obtain ⟨h1, h2⟩ := h.write hd hfz o' hk hf' hxl cs0 cs e hb hsz hlen hok hc
  refine ⟨h1, h2, fun b _ n1 _ => setRow_other w _ b cs fun e1 => n1 ⟨d, v, o, hd, e1.symm⟩, fun _ o hr => ⟨o, hr, rfl, rfl, fun _ => ⟨rfl, rfl⟩⟩, ?_, fun _ h => .inl h, by simp, rfl, rfl, rfl, rfl, frozen?_setRow hb cs⟩
  rintro b ⟨f, v', o'', hf, hbb⟩
  by_cases hfd : f = d
  · subst hfd
    exact .inl ⟨_, v, o, hd, hbb⟩
  · rw [lo_put_ne _ _ hfd] at hf
    exact .inl ⟨f, v', o'', hf, hbb⟩
theorem Stp.writeG (h : SR w l g bl bg) {r : Nat} {o : Ob} (hr : g[r]? = some o) (harr : o.arr = false) (o' : Ob) (hk : o'.k = o.k) (ha' : o'.arr = false) (hxl : o'.xs.length = o.xs.length)
    (hG : GOk o') (cs0 cs : Array Value) (e : TypeId) (hb : blk w (bg r) cs0 e) (hsz : cs.size = cs0.size)
    (hlen : ∀ x ∈ o'.xs, x.cells.length = o'.k ∧ x.known = true) (hok : o'.ok = true → ∀ x ∈ o'.xs, x.good = true)
    (hc : ∀ (i j : Nat) (x c : AV), o'.xs[i]? = some x → x.cells[j]? = some c → ∃ u, cs[i * o'.k + j]? = some u ∧ VR w (mkM w l g bl bg) c u) :
    Stp w l g bl bg (w.setRow (bg r) cs) l (g.set r o') bl bg [r] := by
  obtain ⟨h1, h2⟩ := h.writeG hr harr o' hk ha' hxl hG cs0 cs e hb hsz hlen hok hc
  have hrl := getElem?_lt hr
  refine ⟨h1, h2, fun b _ _ n2 => setRow_other w _ b cs fun e1 => n2 ⟨r, hrl, e1.symm⟩, fun s o2 hs => ?_, fun _ h => .inl h, fun b ho => .inl ?_, by simp, rfl, rfl, rfl, rfl, frozen?_setRow hb cs⟩
  · by_cases hsr : s = r
    · subst hsr
      rw [hr] at hs
      injection hs with hs
      subst hs
      exact ⟨o', by simp [hrl], hk, by rw [ha', harr], fun hn => absurd (by simp) hn⟩
    · refine ⟨o2, ?_, rfl, rfl, fun _ => ⟨rfl, rfl⟩⟩
      rw [List.getElem?_set_ne (Ne.symm hsr)]
      exact hs
  · obtain ⟨s, hs, hb'⟩ := ho
    exact ⟨s, by simpa using hs, hb'⟩

/-! ### What is told otherwise, the world being as it was -/
/-- Nobody stores into a row any more. -/
theorem Stp.freeze (h : SR w l g bl bg) {d v : Nat} {o : Ob} (hd : lo l d = .ob v o) : Stp w l g bl bg w (loPut l d (.ob v { o with fz := true })) g bl bg [] := by
  have key : ∀ f v' o', lo (loPut l d (.ob v { o with fz := true })) f = .ob v' o' → ∃ o2, lo l f = .ob v' o2 ∧ o' = { o2 with fz := o'.fz } ∧ (o2.fz = true → o'.fz = true) := fun f v' o' hf => by
    by_cases hfd : f = d
    · subst hfd
      rw [lo_put_same] at hf
      injection hf with h1 h2
      subst h1 h2
      exact ⟨o, hd, rfl, fun _ => rfl⟩
    · rw [lo_put_ne _ _ hfd] at hf
      exact ⟨o', hf, rfl, fun h => h⟩
  have hle : Le w w (mkM w l g bl bg) (mkM w (loPut l d (.ob v { o with fz := true })) g bl bg) := by
    refine ⟨fun f => ?_, fun f hf x hx => ?_, fun _ _ hx => hx, fun _ _ _ b hx => ⟨[], b, by rw [List.append_nil]; exact hx, fun _ => rfl⟩, fun b p hI => ⟨⟨hI.1, fun f v' o' hf hb => ?_, hI.2.2⟩, fun _ hv => hv⟩, fun b cs e hb => ⟨cs, hb, rfl⟩⟩
    · simp only [mkM, lo_put]
      split
      · rename_i hfd; subst hfd; simp [LO.ver, hd]
      · exact Nat.le_refl _
    · by_cases hfd : f = d
      · subst hfd
        simp only [mkM, lo_put_same, hd] at hx ⊢
        exact hx
      · simp only [mkM, lo_put_ne _ _ hfd] at hx ⊢
        exact hx
    · obtain ⟨o2, h1, h2, h3⟩ := key f v' o' hf
      have := hI.2.1 f v' o2 h1 hb
      rw [h2]
      exact ⟨h3 this.1, this.2⟩
  refine ⟨⟨fun f v' o' hf => ?_, fun r o' hr => ⟨(h.og r o' hr).1.mono hle rfl, (h.og r o' hr).2⟩, fun f v' r hf => ?_, fun f f' v1 o1 v2 o2 hf hf2 hb => ?_, h.dgg, fun f v1 o1 r hf hr => ?_, h.jn, fun f v1 o1 p hf => (let ⟨a1, b1, _⟩ := key f v1 o1 hf; h.jl f v1 a1 p b1), h.jg⟩, hle, fun _ _ _ _ => rfl, fun _ o hr => ⟨o, hr, rfl, rfl, fun _ => ⟨rfl, rfl⟩⟩, ?_, fun _ h => .inl h, Nat.le_refl _, rfl, rfl, rfl, rfl, fun _ => rfl⟩
  · obtain ⟨o2, h1, h2, _⟩ := key f v' o' hf
    have := (h.ol f v' o2 h1).mono hle rfl
    rw [h2]
    exact ⟨this.len, this.ok, this.mem⟩
  · by_cases hfd : f = d
    · subst hfd
      rw [lo_put_same] at hf
      cases hf
    · rw [lo_put_ne _ _ hfd] at hf
      exact h.fw f v' r hf
  · obtain ⟨a1, b1, _⟩ := key f v1 o1 hf
    obtain ⟨a2, b2, _⟩ := key f' v2 o2 hf2
    exact h.dll f f' v1 a1 v2 a2 b1 b2 hb
  · obtain ⟨a1, b1, _⟩ := key f v1 o1 hf
    exact h.dlg f v1 a1 r b1 hr
  · rintro b ⟨f, v', o', hf, hb⟩
    obtain ⟨o2, h1, _⟩ := key f v' o' hf
    exact .inl ⟨f, v', o2, h1, hb⟩
/-- An object is nobody's any more. -/
theorem Stp.gone (h : SR w l g bl bg) (d : Nat) : Stp w l g bl bg w (loPut l d (.gone (lo l d).ver)) g bl bg [] := by
  have key : ∀ f v' o', lo (loPut l d (.gone (lo l d).ver)) f = .ob v' o' → f ≠ d ∧ lo l f = .ob v' o' := fun f v' o' hf => by
    by_cases hfd : f = d
    · subst hfd
      rw [lo_put_same] at hf
      cases hf
    · rw [lo_put_ne _ _ hfd] at hf
      exact ⟨hfd, hf⟩
  have hle : Le w w (mkM w l g bl bg) (mkM w (loPut l d (.gone (lo l d).ver)) g bl bg) := by
    refine ⟨fun f => ?_, fun f hf x hx => ?_, fun _ _ hx => hx, fun _ _ _ b hx => ⟨[], b, by rw [List.append_nil]; exact hx, fun _ => rfl⟩, fun b p hI => ⟨⟨hI.1, fun f v' o' hf hb => hI.2.1 f v' o' (key f v' o' hf).2 hb, hI.2.2⟩, fun _ hv => hv⟩, fun b cs e hb => ⟨cs, hb, rfl⟩⟩
    · simp only [mkM, lo_put]
      split
      · rename_i hfd; subst hfd; exact Nat.le_refl _
      · exact Nat.le_refl _
    · by_cases hfd : f = d
      · subst hfd
        simp only [mkM, lo_put_same] at hx
        cases hx
      · simp only [mkM, lo_put_ne _ _ hfd] at hx ⊢
        exact hx
  refine ⟨⟨fun f v' o' hf => (h.ol f v' o' (key f v' o' hf).2).mono hle rfl, fun r o' hr => ⟨(h.og r o' hr).1.mono hle rfl, (h.og r o' hr).2⟩, fun f v' r hf => ?_, fun f f' v1 o1 v2 o2 hf hf2 hb => h.dll f f' v1 o1 v2 o2 (key _ _ _ hf).2 (key _ _ _ hf2).2 hb, h.dgg,
    fun f v1 o1 r hf hr => h.dlg f v1 o1 r (key _ _ _ hf).2 hr, h.jn, fun f v1 o1 p hf => h.jl f v1 o1 p (key _ _ _ hf).2, h.jg⟩, hle, fun _ _ _ _ => rfl, fun _ o hr => ⟨o, hr, rfl, rfl, fun _ => ⟨rfl, rfl⟩⟩, ?_, fun _ h => .inl h, Nat.le_refl _, rfl, rfl, rfl, rfl, fun _ => rfl⟩
  · by_cases hfd : f = d
    · subst hfd
      rw [lo_put_same] at hf
      cases hf
    · rw [lo_put_ne _ _ hfd] at hf
      exact h.fw f v' r hf
  · rintro b ⟨f, v', o', hf, hb⟩
    exact .inl ⟨f, v', o', (key _ _ _ hf).2, hb⟩
/-- An object of a slot goes to G; what points to it finds it there. -/
theorem Stp.promote (h : SR w l g bl bg) {d v : Nat} {o : Ob} (hd : lo l d = .ob v o) (hfz : o.fz = false) (o' : Ob) (hk : o'.k = o.k) (ha' : o'.arr = false) (hG : GOk o') (ho : ObR w (mkM w l g bl bg) o' (bl d)) :
    Stp w l g bl bg w (loPut l d (.fwd v g.length)) (g ++ [o']) bl (upd bg g.length (bl d)) [] := by
  have key : ∀ f v' o2, lo (loPut l d (.fwd v g.length)) f = .ob v' o2 → f ≠ d ∧ lo l f = .ob v' o2 := fun f v' o2 hf => by
    by_cases hfd : f = d
    · subst hfd
      rw [lo_put_same] at hf
      cases hf
    · rw [lo_put_ne _ _ hfd] at hf
      exact ⟨hfd, hf⟩
  have hget : ∀ (s : Nat) (o2 : Ob), (g ++ [o'])[s]? = some o2 → (s < g.length ∧ g[s]? = some o2) ∨ (s = g.length ∧ o2 = o') := fun s o2 hs => by
    rcases Nat.lt_trichotomy s g.length with h1 | h1 | h1
    · rw [List.getElem?_append_left h1] at hs
      exact .inl ⟨h1, hs⟩
    · subst h1
      simp at hs
      exact .inr ⟨rfl, hs.symm⟩
    · rw [List.getElem?_append_right (by omega), List.getElem?_eq_none (by simp; omega)] at hs
      cases hs
  have hleft : ∀ (s : Nat) (o2 : Ob), g[s]? = some o2 → (g ++ [o'])[s]? = some o2 ∧ s ≠ g.length := fun s o2 hs => by
    have := getElem?_lt hs
    exact ⟨by rw [List.getElem?_append_left this]; exact hs, by omega⟩
  have hle : Le w w (mkM w l g bl bg) (mkM w (loPut l d (.fwd v g.length)) (g ++ [o']) bl (upd bg g.length (bl d))) := by
    refine ⟨fun f => ?_, fun f hf x hx => ?_, fun s x hx => ?_, fun s k xs b hx => ⟨[], b, ?_, fun _ => rfl⟩, fun b p hI => ⟨⟨hI.1, fun f v' o2 hf hb => hI.2.1 f v' o2 (key _ _ _ hf).2 hb, fun s o2 hs hb => ?_⟩, fun _ hv => hv⟩, fun b cs e hb => ⟨cs, hb, rfl⟩⟩
    · simp only [mkM, lo_put]
      split
      · rename_i hfd; subst hfd; simp [LO.ver, hd]
      · exact Nat.le_refl _
    · by_cases hfd : f = d
      · subst hfd
        simp only [mkM, lo_put_same, hd] at hx ⊢
        simp at hx
        rw [← hx, hk]
      · simp only [mkM, lo_put_ne _ _ hfd] at hx ⊢
        split <;> rename_i hlo <;> simp only [hlo] at hx
        · exact hx
        · rename_i v' s
          obtain ⟨o2, hs, _⟩ := h.fw f v' s hlo
          rw [(hleft s o2 hs).1] at hx
          rw [hs]
          simp only [Option.map_some, upd_ne _ _ (hleft s o2 hs).2] at hx ⊢
          exact hx
        · exact hx
    · simp only [mkM] at hx ⊢
      cases hs : g[s]? with
      | none => simp [hs] at hx
      | some o2 =>
        rw [(hleft s o2 hs).1]
        simp only [hs] at hx
        simp only [upd_ne _ _ (hleft s o2 hs).2]
        exact hx
    · simp only [mkM, List.append_nil] at hx ⊢
      cases hs : g[s]? with
      | none => simp [hs] at hx
      | some o2 =>
        rw [(hleft s o2 hs).1]
        simp only [hs] at hx
        simp only [upd_ne _ _ (hleft s o2 hs).2]
        exact hx
    · rcases hget s o2 hs with ⟨h1, h2⟩ | ⟨h1, h2⟩
      · rw [upd_ne _ _ (by omega)] at hb
        exact hI.2.2 s o2 h2 hb
      · rw [h1, upd_same] at hb
        exact absurd (hI.2.1 d v o hd hb).1 (by simp [hfz])
  refine ⟨⟨fun f v' o2 hf => (h.ol f v' o2 (key _ _ _ hf).2).mono hle rfl, fun s o2 hs => ?_, fun f v' s hf => ?_, fun f f' v1 o1 v2 o2 hf hf2 hb => h.dll f f' v1 o1 v2 o2 (key _ _ _ hf).2 (key _ _ _ hf2).2 hb, fun s t hs ht hb => ?_, fun f v1 o1 s hf hs => ?_, h.jn, fun f v1 o1 p hf => h.jl f v1 o1 p (key _ _ _ hf).2, fun s o2 p hs ha => ?_⟩, hle, fun _ _ _ _ => rfl, fun s o2 hs => ⟨o2, (hleft s o2 hs).1, rfl, rfl, fun _ => ⟨rfl, upd_ne _ _ (hleft s o2 hs).2⟩⟩, ?_, ?_, Nat.le_refl _, rfl, rfl, rfl, rfl, fun _ => rfl⟩
  · rcases hget s o2 hs with ⟨h1, h2⟩ | ⟨h1, h2⟩
    · rw [upd_ne _ _ (by omega)]
      exact ⟨(h.og s o2 h2).1.mono hle rfl, (h.og s o2 h2).2⟩
    · subst h1 h2
      rw [upd_same]
      exact ⟨ho.mono hle rfl, hG⟩
  · by_cases hfd : f = d
    · subst hfd
      rw [lo_put_same] at hf
      injection hf with h1 h2
      exact ⟨o', by rw [← h2]; simp, ha'⟩
    · rw [lo_put_ne _ _ hfd] at hf
      obtain ⟨o2, hs, ha⟩ := h.fw f v' s hf
      exact ⟨o2, (hleft s o2 hs).1, ha⟩
  · simp only [List.length_append, List.length_singleton] at hs ht
    by_cases h1 : s = g.length
    · by_cases h2 : t = g.length
      · omega
      · rw [h1, upd_same, upd_ne _ _ h2] at hb
        exact absurd hb (h.dlg d v o t hd (by omega))
    · by_cases h2 : t = g.length
      · rw [h2, upd_same, upd_ne _ _ h1] at hb
        exact absurd hb.symm (h.dlg d v o s hd (by omega))
      · rw [upd_ne _ _ h1, upd_ne _ _ h2] at hb
        exact h.dgg s t (by omega) (by omega) hb
  · obtain ⟨hfd, hf⟩ := key _ _ _ hf
    simp only [List.length_append, List.length_singleton] at hs
    by_cases h1 : s = g.length
    · rw [h1, upd_same]
      exact fun hb => hfd (h.dll f d v1 o1 v o hf hd hb)
    · rw [upd_ne _ _ h1]
      exact h.dlg f v1 o1 s hf (by omega)
  · show bl.J _ _
    rcases hget s o2 hs with ⟨h1, h2⟩ | ⟨h1, h2⟩
    · rw [upd_ne _ _ (by omega)]
      exact h.jg s o2 p h2 ha
    · rw [h2, ha'] at ha
      cases ha
  · rintro b ⟨f, v', o2, hf, hb⟩
    exact .inl ⟨f, v', o2, (key _ _ _ hf).2, hb⟩
  · rintro b ⟨s, hs, hb⟩
    simp only [List.length_append, List.length_singleton] at hs
    by_cases h1 : s = g.length
    · rw [h1, upd_same] at hb
      exact .inr (.inl ⟨d, v, o, hd, hb⟩)
    · rw [upd_ne _ _ h1] at hb
      exact .inl ⟨s, by omega, hb⟩
/-- A row of a slot goes to G, and may grow there. -/
theorem Stp.give (h : SR w l g bl bg) {d v : Nat} {o : Ob} (hd : lo l d = .ob v o) (harr : o.arr = true) (hok : o.ok = true) :
    Stp w l g bl bg w (loPut l d (.gone v)) (g ++ [{ o with fz := true }]) bl (upd bg g.length (bl d)) [] := by
  have key : ∀ f v' o2, lo (loPut l d (.gone v)) f = .ob v' o2 → f ≠ d ∧ lo l f = .ob v' o2 := fun f v' o2 hf => by
    by_cases hfd : f = d
    · subst hfd
      rw [lo_put_same] at hf
      cases hf
    · rw [lo_put_ne _ _ hfd] at hf
      exact ⟨hfd, hf⟩
  have hget : ∀ (s : Nat) (o2 : Ob), (g ++ [{ o with fz := true }])[s]? = some o2 → (s < g.length ∧ g[s]? = some o2) ∨ (s = g.length ∧ o2 = { o with fz := true }) := fun s o2 hs => by
    rcases Nat.lt_trichotomy s g.length with h1 | h1 | h1
    · rw [List.getElem?_append_left h1] at hs
      exact .inl ⟨h1, hs⟩
    · subst h1
      simp at hs
      exact .inr ⟨rfl, hs.symm⟩
    · rw [List.getElem?_append_right (by omega), List.getElem?_eq_none (by simp; omega)] at hs
      cases hs
  have hleft : ∀ (s : Nat) (o2 : Ob), g[s]? = some o2 → (g ++ [{ o with fz := true }])[s]? = some o2 ∧ s ≠ g.length := fun s o2 hs => by
    have := getElem?_lt hs
    exact ⟨by rw [List.getElem?_append_left this]; exact hs, by omega⟩
  have hle : Le w w (mkM w l g bl bg) (mkM w (loPut l d (.gone v)) (g ++ [{ o with fz := true }]) bl (upd bg g.length (bl d))) := by
    refine ⟨fun f => ?_, fun f hf x hx => ?_, fun s x hx => ?_, fun s k xs b hx => ⟨[], b, ?_, fun _ => rfl⟩, fun b p hI => ⟨⟨hI.1, fun f v' o2 hf hb => hI.2.1 f v' o2 (key _ _ _ hf).2 hb, fun s o2 hs hb => ?_⟩, fun _ hv => hv⟩, fun b cs e hb => ⟨cs, hb, rfl⟩⟩
    · simp only [mkM, lo_put]
      split
      · rename_i hfd; subst hfd; simp [LO.ver, hd]
      · exact Nat.le_refl _
    · by_cases hfd : f = d
      · subst hfd
        simp only [mkM, lo_put_same] at hx
        cases hx
      · simp only [mkM, lo_put_ne _ _ hfd] at hx ⊢
        split <;> rename_i hlo <;> simp only [hlo] at hx
        · exact hx
        · rename_i v' s
          obtain ⟨o2, hs, _⟩ := h.fw f v' s hlo
          rw [(hleft s o2 hs).1] at hx
          rw [hs]
          simp only [Option.map_some, upd_ne _ _ (hleft s o2 hs).2] at hx ⊢
          exact hx
        · exact hx
    · simp only [mkM] at hx ⊢
      cases hs : g[s]? with
      | none => simp [hs] at hx
      | some o2 =>
        rw [(hleft s o2 hs).1]
        simp only [hs] at hx
        simp only [upd_ne _ _ (hleft s o2 hs).2]
        exact hx
    · simp only [mkM, List.append_nil] at hx ⊢
      cases hs : g[s]? with
      | none => simp [hs] at hx
      | some o2 =>
        rw [(hleft s o2 hs).1]
        simp only [hs] at hx
        simp only [upd_ne _ _ (hleft s o2 hs).2]
        exact hx
    · rcases hget s o2 hs with ⟨h1, h2⟩ | ⟨h1, h2⟩
      · rw [upd_ne _ _ (by omega)] at hb
        exact hI.2.2 s o2 h2 hb
      · rw [h1, upd_same] at hb
        subst h2
        exact ⟨harr, (hI.2.1 d v o hd hb).2⟩
  have hob : ObR w (mkM w l g bl bg) { o with fz := true } (bl d) := ⟨(h.ol d v o hd).len, (h.ol d v o hd).ok, (h.ol d v o hd).mem⟩
  refine ⟨⟨fun f v' o2 hf => (h.ol f v' o2 (key _ _ _ hf).2).mono hle rfl, fun s o2 hs => ?_, fun f v' s hf => ?_, fun f f' v1 o1 v2 o2 hf hf2 hb => h.dll f f' v1 o1 v2 o2 (key _ _ _ hf).2 (key _ _ _ hf2).2 hb, fun s t hs ht hb => ?_, fun f v1 o1 s hf hs => ?_, h.jn, fun f v1 o1 p hf => h.jl f v1 o1 p (key _ _ _ hf).2, fun s o2 p hs ha => ?_⟩, hle, fun _ _ _ _ => rfl, fun s o2 hs => ⟨o2, (hleft s o2 hs).1, rfl, rfl, fun _ => ⟨rfl, upd_ne _ _ (hleft s o2 hs).2⟩⟩, ?_, ?_, Nat.le_refl _, rfl, rfl, rfl, rfl, fun _ => rfl⟩
  · rcases hget s o2 hs with ⟨h1, h2⟩ | ⟨h1, h2⟩
    · rw [upd_ne _ _ (by omega)]
      exact ⟨(h.og s o2 h2).1.mono hle rfl, (h.og s o2 h2).2⟩
    · subst h1 h2
      rw [upd_same]
      refine ⟨hob.mono hle rfl, fun _ => hok, fun x hx c hc => ?_⟩
      have hg := (h.ol d v o hd).ok hok x hx
      have : c.goodC = true := by
        cases x <;> simp only [AV.cells, List.mem_singleton] at hc <;> first | (subst hc; exact hg) | (simp only [AV.good, List.all_eq_true] at hg; exact hg c hc)
      cases c <;> simp_all [AV.goodC, AV.gclC]
  · by_cases hfd : f = d
    · subst hfd
      rw [lo_put_same] at hf
      cases hf
    · rw [lo_put_ne _ _ hfd] at hf
      obtain ⟨o2, hs, ha⟩ := h.fw f v' s hf
      exact ⟨o2, (hleft s o2 hs).1, ha⟩
  · simp only [List.length_append, List.length_singleton] at hs ht
    by_cases h1 : s = g.length
    · by_cases h2 : t = g.length
      · omega
      · rw [h1, upd_same, upd_ne _ _ h2] at hb
        exact absurd hb (h.dlg d v o t hd (by omega))
    · by_cases h2 : t = g.length
      · rw [h2, upd_same, upd_ne _ _ h1] at hb
        exact absurd hb.symm (h.dlg d v o s hd (by omega))
      · rw [upd_ne _ _ h1, upd_ne _ _ h2] at hb
        exact h.dgg s t (by omega) (by omega) hb
  · obtain ⟨hfd, hf⟩ := key _ _ _ hf
    simp only [List.length_append, List.length_singleton] at hs
    by_cases h1 : s = g.length
    · rw [h1, upd_same]
      exact fun hb => hfd (h.dll f d v1 o1 v o hf hd hb)
    · rw [upd_ne _ _ h1]
      exact h.dlg f v1 o1 s hf (by omega)
  · show bl.J _ _
    rcases hget s o2 hs with ⟨h1, h2⟩ | ⟨h1, h2⟩
    · rw [upd_ne _ _ (by omega)]
      exact h.jg s o2 p h2 ha
    · rw [h1, upd_same]
      exact h.jl d v o p hd
  · rintro b ⟨f, v', o2, hf, hb⟩
    exact .inl ⟨f, v', o2, (key _ _ _ hf).2, hb⟩
  · rintro b ⟨s, hs, hb⟩
    simp only [List.length_append, List.length_singleton] at hs
    by_cases h1 : s = g.length
    · rw [h1, upd_same] at hb
      exact .inr (.inl ⟨d, v, o, hd, hb⟩)
    · rw [upd_ne _ _ h1] at hb
      exact .inl ⟨s, by omega, hb⟩
end
end Go.AE
