import Derived.Test.YtmomeccgdpidiaaAe11
/-! Operations on memory: new objects, append. -/
namespace Go.AE
open Go.RowKit
section
variable {P : Program} {w : World} {l : Ls} {g : Gs} {bl bg : Bl}

/-- What an operation does. -/
def Does (P : Program) (w : World) (l : Ls) (g : Gs) (bl bg : Bl) (s : Sem Value) (v : AV) (l' : Ls) (g' : Gs) (wg : List Nat) : Prop :=
  ∃ u w' bl' bg', s.run P w = .ok u w' ∧ Stp w l g bl bg w' l' g' bl' bg' wg ∧ VR w' (mkM w' l' g' bl' bg') v u
theorem Does.ofRun (h : SR w l g bl bg) {s : Sem Value} {v : AV} (hs : ∃ u, s.run P w = .ok u w ∧ VR w (mkM w l g bl bg) v u) : Does P w l g bl bg s v l g [] :=
  let ⟨u, h1, h2⟩ := hs; ⟨u, w, bl, bg, h1, Stp.refl h, h2⟩
theorem Does.after {w1 : World} {l1 : Ls} {g1 : Gs} {bl1 bg1 : Bl} {a b : List Nat} (h : Stp w l g bl bg w1 l1 g1 bl1 bg1 a) {s s' : Sem Value} {v : AV} {l' : Ls} {g' : Gs} (hs : Does P w1 l1 g1 bl1 bg1 s v l' g' b) (e : s'.run P w = s.run P w1) : Does P w l g bl bg s' v l' g' (a ++ b) :=
  let ⟨u, w', bl', bg', h1, h2, h3⟩ := hs; ⟨u, w', bl', bg', e.trans h1, h.trans h2, h3⟩
theorem run_newRow (w : World) (t : TypeId) (cs : Array Value) : (newRow t cs).run P w = .ok ⟨w.heap.size, 0, none⟩ (w.alloc (.cells cs t)) := by
  simp [newRow]
theorem Stp.drew (h : SR w l g bl bg) : Stp w l g bl bg w.drew l g bl bg [] := Stp.keep h (Nat.le_refl _) (fun _ _ => rfl) rfl rfl rfl fun _ => rfl
/-- A new variable of a value. -/
theorem newVar_does (h : SR w l g bl bg) (t : TypeId) {z : AV} (hk : z.known = true) {u : Value} (hz : VR w (mkM w l g bl bg) z u) (d : Nat) :
    Does P w l g bl bg (do pure (.pointer (some (← newVar t u)))) (.lp d ((lo l d).ver + 1) 0 0) (loPut l d (.ob ((lo l d).ver + 1) ⟨z.cells.length, false, false, false, [z]⟩)) g [] := by
  obtain ⟨c1, c2, c3⟩ := hz.cells hk
  have hs := Stp.new h d ⟨z.cells.length, false, false, false, [z]⟩ u.cells t (by simpa using hk) (by simp) (by simp [c1]) fun i j x c hx hc => by
    cases i with
    | zero =>
      simp at hx
      subst hx
      have hj := getElem?_lt hc
      have hj' : j < u.cells.size := by omega
      exact ⟨u.cells[j], by simp [hj'], c3 j c _ hc (by simp [hj'])⟩
    | succ i => simp at hx
  refine ⟨_, _, _, _, ?_, hs, .lp d _ 0 0 ⟨w.heap.size, 0, none⟩ (by simp [mkM, LO.ver]) fun _ b k hb => ?_⟩
  · simp only [newVar, Sem.run_bind, run_newRow, Result.andThen_ok, Sem.run_pure]
  · simp only [mkM, lo_put_same, Option.some.injEq, Prod.mk.injEq, upd_same] at hb
    obtain ⟨rfl, rfl⟩ := hb
    simp
/-- A row of a slot, as a value. -/
theorem VR.lsNew (l : Ls) (w : World) (d : Nat) (o : Ob) (g : Gs) (bl bg : Bl) (b ver n cap : Nat) {cs : Array Value} {e : TypeId} (hb : blk w b cs e) (hcap : cap * o.k ≤ cs.size) (hn : n ≤ cap) (hbl : bl d = b) :
    VR w (mkM w (loPut l d (.ob ver o)) g bl bg) (.ls d ver 0 n) (.slice (some ⟨b, 0, none⟩) n cap) := by
  refine .ls d ver 0 n _ cap hn (by simp [mkM, LO.ver]) fun _ b' k hb' => ?_
  simp only [mkM, lo_put_same, Option.some.injEq, Prod.mk.injEq] at hb'
  obtain ⟨rfl, rfl⟩ := hb'
  exact ⟨by simp, cs, e, by rw [hbl]; exact hb, by simpa using hcap⟩
/-- Elements in cells. -/
structure RsR (w : World) (m : Mp) (xs : List AV) (k : Nat) (vs : Array Value) : Prop where
  size : vs.size = xs.length * k
  el : ∀ x ∈ xs, x.cells.length = k ∧ x.known = true
  val : ∀ (i j : Nat) (x c : AV) (u : Value), xs[i]? = some x → x.cells[j]? = some c → vs[i * k + j]? = some u → VR w m c u
theorem idx_lt {i j k n : Nat} (hi : i < n) (hj : j < k) : i * k + j < n * k := by
  have : (i + 1) * k ≤ n * k := Nat.mul_le_mul_right _ hi
  rw [Nat.add_mul] at this; omega
theorem RsR.get {m : Mp} {xs : List AV} {k : Nat} {vs : Array Value} (h : RsR w m xs k vs) {i j : Nat} {x c : AV} (hx : xs[i]? = some x) (hc : x.cells[j]? = some c) : ∃ u, vs[i * k + j]? = some u ∧ VR w m c u := by
  have hj := getElem?_lt hc
  rw [(h.el x (List.mem_of_getElem? hx)).1] at hj
  have hlt : i * k + j < vs.size := by rw [h.size]; exact idx_lt (getElem?_lt hx) hj
  exact ⟨vs[i * k + j], by simp [hlt], h.val i j x c _ hx hc (by simp [hlt])⟩
theorem newSlice_does (h : SR w l g bl bg) (e : TypeId) {xs : List AV} {k : Nat} {vs : Array Value} (hr : RsR w (mkM w l g bl bg) xs k vs) (n cap : Nat) (hn : n ≤ xs.length) (hcap : xs.length = cap) (d : Nat) (ok : Bool) (hok : ok = true → ∀ x ∈ xs, x.good = true) :
    Does P w l g bl bg (do pure (.slice (some (← newRow e vs)) n cap)) (.ls d ((lo l d).ver + 1) 0 n) (loPut l d (.ob ((lo l d).ver + 1) ⟨k, true, false, ok, xs.take n⟩)) g [] := by
  have hs := Stp.new h d ⟨k, true, false, ok, xs.take n⟩ vs e (fun x hx => hr.el x (List.mem_of_mem_take hx)) (fun hk x hx => hok hk x (List.mem_of_mem_take hx)) (by rw [hr.size]; exact Nat.mul_le_mul_right _ (by simp; omega)) fun i j x c hx hc => by
    have hi := getElem?_lt hx
    simp only [List.length_take] at hi
    rw [List.getElem?_take_of_lt (by omega)] at hx
    exact hr.get hx hc
  refine ⟨.slice (some ⟨w.heap.size, 0, none⟩) n cap, _, _, _, ?_, hs, ?_⟩
  · simp only [Sem.run_bind, run_newRow, Result.andThen_ok, Sem.run_pure]
  · refine VR.lsNew l _ d _ g _ bg w.heap.size _ n cap (cs := vs) (e := e) ?_ ?_ (by omega) (upd_same _ _ _)
    · show (w.heap.push _)[w.heap.size]? = _
      simp
    · show cap * k ≤ vs.size
      rw [hr.size, hcap]; exact Nat.le_refl _
/-- Elements that are filled in. -/
theorem fillS_run {m : Mp} {k : Nat} : ∀ {ps : List (Nat × AV)} {xs xs' : List AV} {us : List (Nat × Value)} {vs : Array Value}, fillS k ps xs = some xs' → PsR w m ps us → RsR w m xs k vs →
    ∃ vs', Instr.fill (fun i => some (i * k, k)) vs us = some vs' ∧ RsR w m xs' k vs' ∧ xs'.length = xs.length
  | [], xs, xs', us, vs, h, hp, hc => by
    simp [fillS] at h
    subst h
    have : us = [] := List.eq_nil_of_length_eq_zero hp.1.symm
    subst this
    exact ⟨vs, rfl, hc, rfl⟩
  | (i, v) :: ps, xs, xs', us, vs, h, hp, hc => by
    obtain ⟨⟨i', u⟩, us', rfl, e1, hvr, hps⟩ := hp.cons
    simp only at e1 hvr
    subst e1
    simp only [fillS] at h
    split at h
    · rename_i hcond
      obtain ⟨hkn, hsz, hlt⟩ := hcond
      have hv := hvr.csr hkn
      have hus : u.cells.size = k := by rw [← hv.len, hsz]
      have hle : i * k + k ≤ vs.size := by
        rw [hc.size]
        have : (i + 1) * k ≤ xs.length * k := Nat.mul_le_mul_right _ hlt
        rw [Nat.add_mul] at this; omega
      obtain ⟨f1, f2⟩ := foldl_setA u.cells (i * k) vs (by rw [hus]; exact hle)
      have hc' : RsR w m (xs.set i v) k (u.cells.zipIdx.foldl (fun cs (x : Value × Nat) => match x with | (c, j) => cs.setIfInBounds (i * k + j) c) vs) := by
        refine ⟨by rw [f1, hc.size]; simp, fun x hx => ?_, fun p j x c y hx hcc hy => ?_⟩
        · rcases List.mem_or_eq_of_mem_set hx with h1 | h1
          · exact hc.el x h1
          · subst h1; exact ⟨hsz, hkn⟩
        · rw [f2, hus] at hy
          by_cases hpi : p = i
          · subst hpi
            rw [List.getElem?_set_self hlt] at hx
            injection hx with hx
            subst hx
            have hj := getElem?_lt hcc
            rw [if_pos (by omega)] at hy
            exact hv.val j c y hcc (by rw [← hy]; congr 1; omega)
          · rw [List.getElem?_set_ne (Ne.symm hpi)] at hx
            have hj := getElem?_lt hcc
            rw [(hc.el x (List.mem_of_getElem? hx)).1] at hj
            have : ¬ (i * k ≤ p * k + j ∧ p * k + j < i * k + k) := by
              rintro ⟨h1, h2⟩
              rcases Nat.lt_or_ge p i with h3 | h3
              · have : (p + 1) * k ≤ i * k := Nat.mul_le_mul_right _ h3
                rw [Nat.add_mul] at this; omega
              · have : (i + 1) * k ≤ p * k := Nat.mul_le_mul_right _ (by omega)
                rw [Nat.add_mul] at this; omega
            rw [if_neg this] at hy
            exact hc.val p j x c y hx hcc hy
      obtain ⟨vs', hf, hr, hl⟩ := fillS_run h hps hc'
      refine ⟨vs', ?_, hr, by rw [hl]; simp⟩
      simp only [Instr.fill]
      simp only [hus, ne_eq, not_true, decide_false, Bool.false_or]
      rw [if_neg (by simpa using hle)]
      exact hf
    · cases h
theorem zeros_RsR {m : Mp} {z : AV} {u : Value} (hz : VR w m z u) (hk : z.known = true) {k : Nat} (hl : z.cells.length = k) (h0 : 0 < k) (n : Nat) : RsR w m (List.replicate n z) k ((Array.range (n * k)).map (u.cells[· % u.cells.size]!)) := by
  obtain ⟨c1, c2, c3⟩ := hz.cells hk
  refine ⟨by simp, fun x hx => ?_, fun i j x c y hx hc hy => ?_⟩
  · rw [List.mem_replicate] at hx
    rw [hx.2]
    exact ⟨hl, hk⟩
  · rw [List.getElem?_replicate] at hx
    split at hx
    · injection hx with hx
      subst hx
      have hj := getElem?_lt hc
      have hmod : (i * k + j) % u.cells.size = j := by
        rw [c1, hl, Nat.mul_comm, Nat.mul_add_mod, Nat.mod_eq_of_lt (by omega)]
      have hlt : i * k + j < n * k := idx_lt (by omega) (by omega)
      simp [hlt, hmod] at hy
      have hj' : j < u.cells.size := by omega
      rw [getElem!_pos u.cells j hj'] at hy
      exact c3 j c y hc (by rw [← hy]; simp [hj'])
    · cases hx
end
end Go.AE
