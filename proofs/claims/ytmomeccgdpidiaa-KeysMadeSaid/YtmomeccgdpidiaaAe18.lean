import Derived.Test.YtmomeccgdpidiaaAe17
/-! A call: what the callee sees, and what comes back. -/
namespace Go.AE
open Go.RowKit

/-! ### Lists of numbers -/
theorem idx_spec {x : Nat} : ∀ {l : List Nat}, x ∈ l → idx x l < l.length ∧ l[idx x l]? = some x
  | y :: l, h => by
    unfold idx
    by_cases hxy : x = y
    · subst hxy; simp
    · have hl : x ∈ l := by simpa [hxy] using h
      obtain ⟨h1, h2⟩ := idx_spec hl
      have : (x == y) = false := by simpa using hxy
      simp only [this, Bool.false_eq_true, if_false, List.getElem?_cons_succ, List.length_cons]
      exact ⟨by omega, h2⟩
theorem idx_get {l : List Nat} (hn : l.Nodup) {k r : Nat} (h : l[k]? = some r) : idx r l = k := by
  obtain ⟨h1, h2⟩ := idx_spec (List.mem_of_getElem? h)
  have hk := getElem?_lt h
  exact (List.getElem?_inj h1 hn).1 (by rw [h2, h])
theorem addNew_spec : ∀ {m l : List Nat}, l.Nodup → (addNew l m).Nodup ∧ (∀ x ∈ l, x ∈ addNew l m) ∧ ∀ x ∈ m, x ∈ addNew l m
  | [], l, h => ⟨h, fun x hx => hx, by simp⟩
  | y :: m, l, h => by
    unfold addNew
    split
    · rename_i hy
      obtain ⟨h1, h2, h3⟩ := addNew_spec (m := m) h
      refine ⟨h1, h2, fun x hx => ?_⟩
      rcases List.mem_cons.1 hx with rfl | hx
      · obtain ⟨z, hz, he⟩ := List.any_eq_true.1 hy
        exact h2 _ (by simp at he; subst he; exact hz)
      · exact h3 x hx
    · rename_i hy
      have hn : (l ++ [y]).Nodup := by
        rw [List.nodup_append]
        refine ⟨h, by simp, fun a ha b hb => ?_⟩
        simp at hb
        subst hb
        intro e
        subst e
        exact hy (List.any_eq_true.2 ⟨a, ha, by simp⟩)
      obtain ⟨h1, h2, h3⟩ := addNew_spec (m := m) hn
      refine ⟨h1, fun x hx => h2 x (by simp [hx]), fun x hx => ?_⟩
      rcases List.mem_cons.1 hx with rfl | hx
      · exact h2 _ (by simp)
      · exact h3 x hx
theorem reach_spec (g : Gs) : ∀ (n : Nat) {l : List Nat}, l.Nodup → (reach g n l).Nodup ∧ ∀ x ∈ l, x ∈ reach g n l
  | 0, l, h => ⟨h, fun x hx => hx⟩
  | n + 1, l, h => by
    unfold reach
    obtain ⟨h1, h2, _⟩ := addNew_spec (m := l.flatMap fun r => match g[r]? with | some o => refsO o | none => []) h
    obtain ⟨h3, h4⟩ := reach_spec g n h1
    exact ⟨h3, fun x hx => h4 x (h2 x hx)⟩
theorem outI_lt {ids : List Nat} {n k r : Nat} (h : ids[k]? = some r) : outI ids n k = r := by
  have := getElem?_lt h
  unfold outI
  rw [if_pos this, List.getD, h]
  rfl
theorem outI_ge {ids : List Nat} {n k : Nat} (h : ids.length ≤ k) : outI ids n k = n + (k - ids.length) := by
  simp [outI, show ¬ k < ids.length by omega]
theorem renO_k (f : Nat → Nat) (o : Ob) : (renO f o).k = o.k ∧ (renO f o).arr = o.arr ∧ (renO f o).fz = o.fz ∧ (renO f o).xs.length = o.xs.length ∧ (o.arr = true → renO f o = o) := by
  unfold renO
  split
  · exact ⟨rfl, rfl, rfl, rfl, fun _ => rfl⟩
  · rename_i h
    exact ⟨rfl, rfl, rfl, by simp, fun h' => absurd h' h⟩
theorem pick_spec {g : Gs} {ids : List Nat} {gs : Gs} (h : pick g ids = some gs) : gs.length = ids.length ∧ ∀ (k r : Nat) (o : Ob), ids[k]? = some r → gs[k]? = some o → g[r]? = some o := by
  obtain ⟨h1, h2⟩ := allSome_spec h
  exact ⟨h1, fun k r o hr ho => h2 k r o hr ho⟩
theorem back_spec (f : Nat → Nat) : ∀ {ids : List Nat} {g os : Gs}, ids.Nodup → (∀ r ∈ ids, r < g.length) → ids.length ≤ os.length →
    (back f g ids os).length = g.length + (os.length - ids.length) ∧ (∀ (k r : Nat) (o : Ob), ids[k]? = some r → os[k]? = some o → (back f g ids os)[r]? = some (renO f o)) ∧
    (∀ r, r < g.length → r ∉ ids → (back f g ids os)[r]? = g[r]?) ∧ ∀ (k : Nat) (o : Ob), ids.length ≤ k → os[k]? = some o → (back f g ids os)[g.length + (k - ids.length)]? = some (renO f o)
  | [], g, os, _, _, _ => by
    refine ⟨by simp [back], by simp, fun r hr _ => ?_, fun k o _ ho => ?_⟩
    · simp [back, List.getElem?_append_left hr]
    · simp only [back]
      rw [List.getElem?_append_right (by simp)]
      simp [ho]
  | r :: ids, g, [], _, _, h => by simp at h
  | r :: ids, g, o :: os, hn, hlt, hle => by
    rw [List.nodup_cons] at hn
    obtain ⟨h1, h2, h3, h4⟩ := back_spec f (ids := ids) (g := g.set r (renO f o)) (os := os) hn.2 (fun x hx => by simpa using hlt x (by simp [hx])) (by simpa using hle)
    simp only [List.length_set] at h1 h3 h4
    refine ⟨by simp only [back, h1, List.length_cons]; omega, fun k x y hx hy => ?_, fun x hx hxn => ?_, fun k y hk hy => ?_⟩
    · simp only [back]
      cases k with
      | zero =>
        simp at hx hy
        subst hx hy
        have := hlt r (by simp)
        rw [h3 r this hn.1]
        simp [this]
      | succ k => exact h2 k x y (by simpa using hx) (by simpa using hy)
    · simp only [List.mem_cons, not_or] at hxn
      simp only [back]
      rw [h3 x hx hxn.2, List.getElem?_set_ne (Ne.symm hxn.1)]
    · simp only [back, List.length_cons] at hk ⊢
      cases k with
      | zero => omega
      | succ k =>
        have := h4 k y (by omega) (by simpa using hy)
        rw [← this]
        congr 1
        omega
section
variable {w : World} {l : Ls} {g : Gs} {bl bg : Bl}

/-- Where the callee's objects lie, and what others have that nobody writes to. -/
def subL (w : World) (l : Ls) (g : Gs) (bl bg : Bl) (ids : List Nat) : Bl := ⟨bl.f, fun b p => b < w.heap.size → (mkM w l g bl bg).I b p ∨ ∃ (r : Nat) (o : Ob), r ∈ ids ∧ g[r]? = some o ∧ o.arr = true ∧ bg r = b⟩
def subG (bg : Bl) (ids : List Nat) : Bl := ⟨fun k => bg (ids.getD k 0), fun _ _ => True⟩
theorem sub_get {ids : List Nat} {gs : Gs} (hp : pick g ids = some gs) {f : Nat → Nat} {k : Nat} {o' : Ob} (h : (gs.map (renO f))[k]? = some o') : ∃ r o, ids[k]? = some r ∧ g[r]? = some o ∧ gs[k]? = some o ∧ o' = renO f o ∧ subG bg ids k = bg r := by
  simp only [List.getElem?_map, Option.map_eq_some_iff] at h
  obtain ⟨o, ho, rfl⟩ := h
  obtain ⟨h1, h2⟩ := pick_spec hp
  have hlt := getElem?_lt ho
  have hr : ids[k]? = some (ids[k]'(by omega)) := by simp
  exact ⟨_, o, hr, h2 k _ o hr ho, ho, rfl, by simp [subG, List.getD, hr]⟩
theorem sub_of {ids : List Nat} {gs : Gs} (hp : pick g ids = some gs) (f : Nat → Nat) {r : Nat} (hr : r ∈ ids) {o : Ob} (ho : g[r]? = some o) : (gs.map (renO f))[idx r ids]? = some (renO f o) ∧ subG bg ids (idx r ids) = bg r := by
  obtain ⟨h1, h2⟩ := idx_spec hr
  obtain ⟨h3, h4⟩ := pick_spec hp
  have hg : gs[idx r ids]? = some (gs[idx r ids]'(by omega)) := by simp
  have := h4 _ r _ h2 hg
  rw [ho] at this
  injection this with this
  refine ⟨?_, by simp [subG, List.getD, h2]⟩
  simp only [List.getElem?_map, hg, Option.map_some, this]
theorem SR.sub (h : SR w l g bl bg) {ids : List Nat} (hn : ids.Nodup) {gs : Gs} (hp : pick g ids = some gs) (hcl : ∀ o ∈ gs, ∀ r ∈ refsO o, r ∈ ids) :
    SR w [] (gs.map (renO (idx · ids))) (subL w l g bl bg ids) (subG bg ids) ∧ Mv w w (mkM w l g bl bg) (mkM w [] (gs.map (renO (idx · ids))) (subL w l g bl bg ids) (subG bg ids)) (idx · ids) (· ∈ ids) := by
  have hmv : Mv w w (mkM w l g bl bg) (mkM w [] (gs.map (renO (idx · ids))) (subL w l g bl bg ids) (subG bg ids)) (idx · ids) (· ∈ ids) := by
    refine ⟨fun r x hr hx => ?_, fun r k xs b hr hx => ?_, fun r k xs b hx x hxx => ?_, fun b p hI => ⟨⟨⟨hI.1.1, fun _ => .inl hI⟩, fun d v o hd => ?_, fun k o' hk hb => ?_⟩, fun _ hv => hv⟩, fun r k xs b _ _ cs e hb => ⟨cs, hb, rfl⟩⟩
    · simp only [mkM] at hx ⊢
      cases ho : g[r]? with
      | none => simp [ho] at hx
      | some o =>
        obtain ⟨h1, h2⟩ := sub_of (bg := bg) hp (idx · ids) hr ho
        obtain ⟨k1, k2, k3, k4, k5⟩ := renO_k (idx · ids) o
        simp only [ho] at hx
        simp only [h1, h2, k1, k2]
        exact hx
    · simp only [mkM] at hx ⊢
      cases ho : g[r]? with
      | none => simp [ho] at hx
      | some o =>
        obtain ⟨h1, h2⟩ := sub_of (bg := bg) hp (idx · ids) hr ho
        simp only [ho] at hx
        split at hx
        · rename_i harr
          simp only [h1, h2, (renO_k (idx · ids) o).2.2.2.2 harr, harr, if_true]
          exact hx
        · cases hx
    · simp only [mkM] at hx
      cases ho : g[r]? with
      | none => simp [ho] at hx
      | some o =>
        simp only [ho] at hx
        split at hx
        · rename_i harr
          simp only [Option.some.injEq, Prod.mk.injEq] at hx
          obtain ⟨rfl, rfl, rfl⟩ := hx
          exact (h.og r o ho).1.ok ((h.og r o ho).2.ok harr) x hxx
        · cases hx
    · simp [lo, lget] at hd
    · obtain ⟨r, o, hr, ho, _, rfl, hb'⟩ := sub_get (bg := bg) hp hk
      obtain ⟨k1, k2, k3, k4, k5⟩ := renO_k (idx · ids) o
      have := hI.2.2 r o ho (by rw [← hb']; exact hb)
      rw [k1, k2, k4]
      exact this
  have hids : ∀ k r, ids[k]? = some r → idx r ids = k := fun k r hk => idx_get hn hk
  refine ⟨⟨fun d v o hd => ?_, fun k o' hk => ?_, fun d v r hd => ?_, fun d e v o v' o' hd => ?_, fun k k' hk hk' hb => ?_, fun d v o r hd => ?_, fun b p hb hlt => absurd hlt (by omega), fun d v o p hd => ?_, fun k o' p hk ha hlt => ?_⟩, hmv⟩
  · simp [lo, lget] at hd
  · obtain ⟨r, o, hr, ho, hgo, rfl, hb'⟩ := sub_get (bg := bg) hp hk
    rw [hb']
    exact hmv.ob (h.og r o ho).1 (h.og r o ho).2 (fun x hx => hcl o (List.mem_of_getElem? hgo) x hx) rfl
  · simp [lo, lget] at hd
  · simp [lo, lget] at hd
  · obtain ⟨r, o, hr, ho, _, _, hb1⟩ := sub_get (bg := bg) hp (f := (idx · ids)) (k := k) (List.getElem?_eq_getElem hk)
    obtain ⟨r', o', hr', ho', _, _, hb2⟩ := sub_get (bg := bg) hp (f := (idx · ids)) (k := k') (List.getElem?_eq_getElem hk')
    rw [hb1, hb2] at hb
    have := h.dgg r r' (getElem?_lt ho) (getElem?_lt ho') hb
    subst this
    rw [← hids k r hr, ← hids k' r hr']
  · simp [lo, lget] at hd
  · simp [lo, lget] at hd
  · obtain ⟨r, o, hr, ho, _, rfl, hb'⟩ := sub_get (bg := bg) hp hk
    rw [(renO_k (idx · ids) o).2.1] at ha
    exact .inr ⟨r, o, List.mem_of_getElem? hr, ho, ha, hb'.symm⟩
end
end Go.AE
