import Derived.Test.YtmomeccgdpidiaaAe8
/-! What leaves a frame. -/
namespace Go.AE
open Go.RowKit

theorem goodC_gclC {c : AV} (h : c.goodC = true) : c.gclC = true := by cases c <;> simp_all [AV.goodC, AV.gclC]
theorem good_cells {x : AV} (h : x.good = true) : ∀ c ∈ x.cells, c.goodC = true := fun c hc => by
  cases x <;> simp only [AV.cells, List.mem_singleton] at hc <;> first | (subst hc; exact h) | (simp only [AV.good, List.all_eq_true] at h; exact h c hc)
section
variable {w : World} {l : Ls} {g : Gs} {bl bg : Bl}
/-- A whole row of G. -/
theorem VR.gsWhole (h : SR w l g bl bg) {r : Nat} {o : Ob} (hr : g[r]? = some o) (harr : o.arr = true) {cs : Array Value} {e : TypeId} {cap : Nat} (hb : blk w (bg r) cs e) (hcap : cap * o.k ≤ cs.size) (hn : o.xs.length ≤ cap) :
    VR w (mkM w l g bl bg) (.gs r 0 o.xs.length) (.slice (some ⟨bg r, 0, none⟩) o.xs.length cap) := by
  obtain ⟨ho, hg⟩ := h.og r o hr
  obtain ⟨cs', e', hb', hs, hc⟩ := ho.mem
  have hcs : cs' = cs := by
    unfold blk at hb hb'
    rw [hb] at hb'
    injection hb' with hb'
    injection hb' with e1 e2
    exact e1.symm
  subst hcs
  have hget : ∀ (p j : Nat) (x c : AV), o.xs[0 + p]? = some x → x.cells[j]? = some c → cs'[p * o.k + j]? = some (cs'[p * o.k + j]?.getD .nilFunc) ∧ VR w (mkM w l g bl bg) c (cs'[p * o.k + j]?.getD .nilFunc) := fun p j x c hx hcc => by
    rw [Nat.zero_add] at hx
    obtain ⟨v, hv, hr'⟩ := hc p j x c hx hcc
    rw [hv]
    exact ⟨rfl, hr'⟩
  refine .gs r 0 o.xs.length o.k o.xs (bg r) (bg r) 0 cap (fun p j => cs'[p * o.k + j]?.getD .nilFunc) (by simp [mkM, hr, harr]) (by omega) hn (fun p j x c _ hx hcc => ?_) (fun p j x c hp hx hcc => ?_) (fun p j x c _ hx hcc => (hget p j x c hx hcc).2) fun _ _ => ⟨rfl, rfl, cs', e, hb, hcap⟩
  · rw [Nat.zero_add, cell_blk hb]
    exact (hget p j x c hx hcc).1
  · have hlen := (ho.len x (List.mem_of_getElem? hx)).1
    have hj := getElem?_lt hcc
    have hpp : p * o.k + j < o.xs.length * o.k := by
      have : (p + 1) * o.k ≤ o.xs.length * o.k := Nat.mul_le_mul_right _ hp
      rw [Nat.add_mul] at this; omega
    refine ⟨⟨h.bg_lt (getElem?_lt hr), h.jg r o _ hr harr⟩, fun d v o' hd hbd => absurd hbd (h.dlg d v o' r hd (getElem?_lt hr)), fun r' o' hr' hbb => ?_⟩
    have := h.dgg r' r (getElem?_lt hr') (getElem?_lt hr) hbb
    subst this
    rw [hr] at hr'
    injection hr' with hr'
    subst hr'
    exact ⟨harr, by omega⟩
/-- A part of a row of G, as a list. -/
theorem VR.gsList (h : SR w l g bl bg) {r i n : Nat} {o : Ob} (hr : g[r]? = some o) (harr : o.arr = true) (hle : i + n ≤ o.xs.length) {u : Value} (hv : VR w (mkM w l g bl bg) (.gs r i n) u) : VR w (mkM w l g bl bg) (.sl o.k false ((o.xs.drop i).take n)) u := by
  cases hv with
  | gs _ _ _ k xs b0 b of cap cv g1 g2 g3 g4 g5 g6 g7 =>
  have hga := g1
  simp only [mkM, hr, harr, if_true, Option.some.injEq, Prod.mk.injEq] at hga
  obtain ⟨rfl, rfl, _⟩ := hga
  obtain ⟨ho, hg⟩ := h.og r o hr
  have hlen : ((o.xs.drop i).take n).length = n := by simp; omega
  have hget : ∀ (p : Nat) (x : AV), ((o.xs.drop i).take n)[p]? = some x → p < n ∧ o.xs[i + p]? = some x := fun p x hx => by
    have hp := getElem?_lt hx
    rw [hlen] at hp
    rw [List.getElem?_take_of_lt hp, List.getElem?_drop] at hx
    exact ⟨hp, hx⟩
  conv => rhs; rw [← hlen]
  exact .sl o.k false _ b of cap cv (by omega) (by simp) (fun x hx => ⟨ho.ok (hg.ok harr) x (List.mem_of_mem_drop (List.mem_of_mem_take hx)), (ho.len x (List.mem_of_mem_drop (List.mem_of_mem_take hx))).1⟩)
    (fun p j x c hx hc => g4 p j x c (hget p x hx).1 (hget p x hx).2 hc) (fun p j x c hx hc => g5 p j x c (hget p x hx).1 (hget p x hx).2 hc) (fun p j x c hx hc => g6 p j x c (hget p x hx).1 (hget p x hx).2 hc)
/-- A part of a row of a slot that is frozen, as a list. -/
theorem VR.lsList (h : SR w l g bl bg) {d v i n : Nat} {o : Ob} (hd : lo l d = .ob v o) (hok : o.ok = true) (hfz : o.fz = true) (hle : i + n ≤ o.xs.length) {u : Value} (hv : VR w (mkM w l g bl bg) (.ls d v i n) u) : VR w (mkM w l g bl bg) (.sl o.k false ((o.xs.drop i).take n)) u := by
  cases hv with
  | ls _ _ _ _ ad cap c0 c1 c2 =>
  obtain ⟨rfl, _⟩ := c2 (by simp [mkM, hd, LO.ver]) (bl d) o.k (by simp [mkM, hd])
  have ho := h.ol d v o hd
  obtain ⟨cs, e, hb, hs, hc⟩ := ho.mem
  have hlen : ((o.xs.drop i).take n).length = n := by simp; omega
  have hget : ∀ (p : Nat) (x : AV), ((o.xs.drop i).take n)[p]? = some x → p < n ∧ o.xs[i + p]? = some x := fun p x hx => by
    have hp := getElem?_lt hx
    rw [hlen] at hp
    rw [List.getElem?_take_of_lt hp, List.getElem?_drop] at hx
    exact ⟨hp, hx⟩
  have hcell : ∀ (p j : Nat) (x c : AV), ((o.xs.drop i).take n)[p]? = some x → x.cells[j]? = some c → cs[i * o.k + (p * o.k + j)]? = some (cs[i * o.k + (p * o.k + j)]?.getD .nilFunc) ∧ VR w (mkM w l g bl bg) c (cs[i * o.k + (p * o.k + j)]?.getD .nilFunc) := fun p j x c hx hcc => by
    obtain ⟨v, hv, hr'⟩ := hc (i + p) j x c (hget p x hx).2 hcc
    rw [show i * o.k + (p * o.k + j) = (i + p) * o.k + j by rw [Nat.add_mul]; omega, hv]
    exact ⟨rfl, hr'⟩
  conv => rhs; rw [← hlen]
  refine .sl o.k false _ (bl d) (i * o.k) cap (fun p j => cs[i * o.k + (p * o.k + j)]?.getD .nilFunc) (by omega) (by simp) (fun x hx => ⟨ho.ok hok x (List.mem_of_mem_drop (List.mem_of_mem_take hx)), (ho.len x (List.mem_of_mem_drop (List.mem_of_mem_take hx))).1⟩)
    (fun p j x c hx hcc => by rw [cell_blk hb]; exact (hcell p j x c hx hcc).1) (fun p j x c hx hcc => ?_) (fun p j x c hx hcc => (hcell p j x c hx hcc).2)
  have hlen' := (ho.len x (List.mem_of_getElem? (hget p x hx).2)).1
  have hj := getElem?_lt hcc
  have hpp : i * o.k + (p * o.k + j) < o.xs.length * o.k := by
    have h1 := (hget p x hx).1
    have : (i + p + 1) * o.k ≤ o.xs.length * o.k := Nat.mul_le_mul_right _ (by omega)
    rw [Nat.add_mul, Nat.add_mul] at this; omega
  refine ⟨⟨ho.lt, h.jl d v o _ hd⟩, fun d' v' o' hd' hbd => ?_, fun r o' hr hbb => absurd hbb.symm (h.dlg d v o r hd (getElem?_lt hr))⟩
  have := h.dll d' d v' o' v o hd' hd hbd
  subst this
  rw [hd] at hd'
  injection hd' with e1 e2
  subst e2
  exact ⟨hfz, hpp⟩
end

/-- A pass over what is told of memory, the memory being as it was. -/
def ExpOK (w : World) (bl : Bl) (f : AV → X → Option (AV × X)) (C : AV → Prop) (Q : AV → AV → Prop) : Prop :=
  ∀ (c : AV) (x : X) (c' : AV) (x' : X), f c x = some (c', x') → C c → ∀ (bg : Bl) (u : Value), SR w x.l x.g bl bg → VR w (mkM w x.l x.g bl bg) c u →
    ∃ bg', Stp w x.l x.g bl bg w x'.l x'.g bl bg' [] ∧ VR w (mkM w x'.l x'.g bl bg') c' u ∧ Q c c'
theorem mapS_spec {w : World} {bl : Bl} {f : AV → X → Option (AV × X)} {C : AV → Prop} {Q : AV → AV → Prop} (hf : ExpOK w bl f C Q) : ∀ (cs : List AV) (x : X) (cs' : List AV) (x' : X), mapS f cs x = some (cs', x') → (∀ c ∈ cs, C c) →
    ∀ (bg : Bl) (us : List Value), SR w x.l x.g bl bg → us.length = cs.length → (∀ (i : Nat) (c : AV) (u : Value), cs[i]? = some c → us[i]? = some u → VR w (mkM w x.l x.g bl bg) c u) →
    ∃ bg', Stp w x.l x.g bl bg w x'.l x'.g bl bg' [] ∧ cs'.length = cs.length ∧ (∀ (i : Nat) (c : AV) (u : Value), cs'[i]? = some c → us[i]? = some u → VR w (mkM w x'.l x'.g bl bg') c u) ∧ ∀ (i : Nat) (c c' : AV), cs[i]? = some c → cs'[i]? = some c' → Q c c'
  | [], x, cs', x', h, _, bg, us, hsr, hl, hv => by
    simp [mapS] at h
    obtain ⟨rfl, rfl⟩ := h
    exact ⟨bg, Stp.refl hsr, rfl, by simp, by simp⟩
  | c :: cs, x, cs', x', h, hC, bg, [], hsr, hl, hv => by simp at hl
  | c :: cs, x, cs', x', h, hC, bg, u :: us, hsr, hl, hv => by
    simp only [mapS, Option.bind_eq_some_iff] at h
    obtain ⟨⟨c1, x1⟩, h1, ⟨cs1, x2⟩, h2, h⟩ := h
    injection h with h
    injection h with e1 e2
    subst e1 e2
    obtain ⟨bg1, s1, v1, q1⟩ := hf c x c1 x1 h1 (hC c (by simp)) bg u hsr (hv 0 c u rfl rfl)
    obtain ⟨bg2, s2, l2, v2, q2⟩ := mapS_spec hf cs x1 cs1 x2 h2 (fun c hc => hC c (by simp [hc])) bg1 us s1.sr (by simpa using hl) fun i a b ha hb => (hv (i + 1) a b (by simpa using ha) (by simpa using hb)).mono s1.le
    refine ⟨bg2, by simpa using s1.trans s2, by simp [l2], fun i a b ha hb => ?_, fun i a b ha hb => ?_⟩
    · cases i with
      | zero =>
        simp at ha hb
        subst ha hb
        exact v1.mono s2.le
      | succ i => exact v2 i a b (by simpa using ha) (by simpa using hb)
    · cases i with
      | zero =>
        simp at ha hb
        subst ha hb
        exact q1
      | succ i => exact q2 i a b (by simpa using ha) (by simpa using hb)
/-- A cell that may leave. -/
def outC (_ c : AV) : Prop := c.isCell = true ∧ c.gclC = true
/-- The same for a value of several cells. -/
def outV' (c c' : AV) : Prop := c'.known = true ∧ c'.cells.length = c.cells.length ∧ ∀ d ∈ c'.cells, d.gclC = true
theorem cell_cells {c : AV} (h : c.isCell = true) : c.cells = [c] := by cases c <;> first | rfl | simp [AV.isCell] at h
theorem cell_known {c : AV} (h : c.isCell = true) : c.known = true := by cases c <;> first | exact h | simp [AV.isCell] at h
theorem expE_spec {w : World} {bl : Bl} {f : AV → X → Option (AV × X)} (hf : ExpOK w bl f (fun _ => True) outC) (hag : ∀ cs x, f (.agg cs) x = none) :
    ExpOK w bl (fun y s => match y with | .agg cs => (mapS f cs s).bind fun (cs, s) => some (.agg cs, s) | y => f y s) (fun _ => True) outV' := by
  intro c x c' x' h _ bg u hsr hv
  by_cases ha : ∃ cs, c = .agg cs
  · obtain ⟨cs, rfl⟩ := ha
    simp only [Option.bind_eq_some_iff] at h
    obtain ⟨⟨cs', s⟩, h1, h⟩ := h
    injection h with h
    injection h with e1 e2
    subst e1 e2
    obtain ⟨vs, rfl, hl, hc, hr⟩ := hv.aggI
    obtain ⟨bg', s1, l1, v1, q1⟩ := mapS_spec hf cs x cs' s h1 (fun _ _ => trivial) bg vs.toList hsr (by simpa using hl.symm) fun i a b ha hb => hr i a b ha (by simpa using hb)
    have hq : ∀ c ∈ cs', c.isCell = true ∧ c.gclC = true := fun c hc' => by
      obtain ⟨i, hi⟩ := List.getElem?_of_mem hc'
      have hlt := getElem?_lt hi
      exact q1 i (cs[i]'(by omega)) c (by simp) hi
    refine ⟨bg', s1, .agg cs' vs (by omega) (fun c hc' => (hq c hc').1) fun i a b ha hb => v1 i a b ha (by simpa using hb), ?_, l1, fun d hd => (hq d hd).2⟩
    simp only [AV.known, List.all_eq_true]
    exact fun c hc' => (hq c hc').1
  · have h' : f c x = some (c', x') := by cases c <;> first | exact h | exact absurd ⟨_, rfl⟩ ha
    obtain ⟨bg', s1, v1, q1, q2⟩ := hf c x c' x' h' trivial bg u hsr hv
    refine ⟨bg', s1, v1, cell_known q1, ?_, ?_⟩
    · rw [cell_cells q1]
      cases c <;> first | rfl | exact absurd ⟨_, rfl⟩ ha
    · rw [cell_cells q1]
      simpa using q2
end Go.AE
