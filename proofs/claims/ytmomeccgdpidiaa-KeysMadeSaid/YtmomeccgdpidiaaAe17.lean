import Derived.Test.YtmomeccgdpidiaaAe16
/-! From one frame to another: what is told of values. -/
namespace Go.AE
open Go.RowKit

/-- A good value in another memory. -/
theorem VR.goodT {w w' : World} {m m' : Mp} (hI : ∀ b p, m.I b p → m'.I b p ∧ ∀ v, w.cell? ⟨b, p, none⟩ = some v → w'.cell? ⟨b, p, none⟩ = some v) {a : AV} {v : Value} (h : VR w m a v) : a.good = true → VR w' m' a v := by
  induction h with
  | int k n => exact fun _ => .int k n
  | bool b => exact fun _ => .bool b
  | str s => exact fun _ => .str s
  | nilp => exact fun _ => .nilp
  | nilf => exact fun _ => .nilf
  | nili => exact fun _ => .nili
  | nils => exact fun _ => .nils
  | nilm => exact fun _ => .nilm
  | ifc t y => exact fun _ => .ifc t y
  | agg cs vs h1 h2 h3 ih =>
    intro hg
    simp only [AV.good, List.all_eq_true] at hg
    refine .agg cs vs h1 h2 fun i c v hc hv => ih i c v hc hv ?_
    have := hg c (List.mem_of_getElem? hc)
    cases c <;> first | exact this | simp [AV.goodC] at this
  | tup cs vs h1 h2 ih => intro hg; simp [AV.good, AV.goodC] at hg
  | fn f fs cs gs vs h1 h2 h3 h4 h5 ih1 ih2 =>
    intro hg
    simp only [AV.good, AV.goodC, Bool.and_eq_true, List.isEmpty_iff] at hg
    obtain ⟨rfl, rfl⟩ := hg
    exact .fn f [] [] gs vs h1 h2 (by simp) (by simp) (by simp)
  | sl k ex xs b o cap cv h1 h2 h3 h4 h5 h6 ih =>
    intro _
    refine .sl k ex xs b o cap cv h1 h2 h3 (fun i j x c hx hc => (hI _ _ (h5 i j x c hx hc)).2 _ (h4 i j x c hx hc)) (fun i j x c hx hc => (hI _ _ (h5 i j x c hx hc)).1) fun i j x c hx hc => ih i j x c hx hc ?_
    have := good_cells (h3 x (List.mem_of_getElem? hx)).1 c (List.mem_of_getElem? hc)
    cases c <;> first | exact this | simp [AV.goodC] at this
  | lp d ver i j a h1 h2 => intro hg; simp [AV.good, AV.goodC] at hg
  | ls d ver i n a cap h0 h1 h2 => intro hg; simp [AV.good, AV.goodC] at hg
  | gp r i j b k hb => intro hg; simp [AV.good, AV.goodC] at hg
  | gs r i n k xs b0 b o cap cv h1 h2 h3 h4 h5 h6 h7 ih => intro hg; simp [AV.good, AV.goodC] at hg
  | rp x j b o cv h1 h2 h3 h4 ih => intro hg; simp [AV.good, AV.goodC] at hg
  | dead v => intro hg; simp [AV.good, AV.goodC] at hg
theorem goodC_good {c : AV} (h : c.goodC = true) : c.good = true := by cases c <;> first | exact h | simp [AV.goodC] at h
theorem renC_good {f : Nat → Nat} {c : AV} (h : c.goodC = true) : renC f c = c := by
  cases c <;> simp_all [AV.goodC, renC]
theorem renV1_good {f : Nat → Nat} {y : AV} (h : y.good = true) : renV1 f y = y := by
  cases y with
  | agg cs =>
    simp only [AV.good, List.all_eq_true] at h
    simp only [renV1, AV.agg.injEq]
    conv => rhs; rw [← List.map_id cs]
    exact List.map_congr_left fun c hc => renC_good (h c hc)
  | fn g fs cs => exact renC_good (c := .fn g fs cs) h
  | gp r i j => simp [AV.good, AV.goodC] at h
  | gs r i j => simp [AV.good, AV.goodC] at h
  | _ => rfl
/-- What goes from one frame's memory to another one's. -/
structure Mv (w w' : World) (m m' : Mp) (f : Nat → Nat) (R : Nat → Prop) : Prop where
  gb : ∀ r x, R r → m.gb r = some x → m'.gb (f r) = some x
  ga : ∀ r k xs b, R r → m.ga r = some (k, xs, b) → m'.ga (f r) = some (k, xs, b)
  good : ∀ r k xs b, m.ga r = some (k, xs, b) → ∀ x ∈ xs, x.good = true
  I : ∀ b p, m.I b p → m'.I b p ∧ ∀ v, w.cell? ⟨b, p, none⟩ = some v → w'.cell? ⟨b, p, none⟩ = some v
  size : ∀ r k xs b, R r → m.ga r = some (k, xs, b) → ∀ cs e, blk w b cs e → ∃ cs', blk w' b cs' e ∧ cs'.size = cs.size
theorem Mv.cell1 {w w' : World} {m m' : Mp} {f : Nat → Nat} {R : Nat → Prop} (h : Mv w w' m m' f R) {c : AV} {v : Value} (hv : VR w m c v) (hc : c.gclI = true) (hr : ∀ r ∈ refsI c, R r) : VR w' m' (renC1 f c) v := by
  cases hv with
  | gp r i j b k hb => exact .gp (f r) i j b k (h.gb r _ (hr r (by simp [refsI])) hb)
  | gs r i n k xs b0 b o cap cv h1 h2 h3 h4 h5 h6 h7 =>
    have hR := hr r (by simp [refsI])
    refine .gs (f r) i n k xs b0 b o cap cv (h.ga r _ _ _ hR h1) h2 h3 (fun p j x c hp hx hc => (h.I _ _ (h5 p j x c hp hx hc)).2 _ (h4 p j x c hp hx hc)) (fun p j x c hp hx hc => (h.I _ _ (h5 p j x c hp hx hc)).1)
      (fun p j x c hp hx hc => (h6 p j x c hp hx hc).goodT h.I (goodC_good (good_cells (h.good r k xs b0 h1 x (List.mem_of_getElem? hx)) c (List.mem_of_getElem? hc)))) fun hi hn => ?_
    obtain ⟨e1, e2, cs, e, hb, hs⟩ := h7 hi hn
    subst e1
    obtain ⟨cs', hb', hs'⟩ := h.size r k xs b hR h1 cs e hb
    exact ⟨rfl, e2, cs', e, hb', by omega⟩
  | int k n => exact .int k n
  | bool b => exact .bool b
  | str s => exact .str s
  | nilp => exact .nilp
  | nilf => exact .nilf
  | nili => exact .nili
  | nils => exact .nils
  | nilm => exact .nilm
  | ifc t y => exact .ifc t y
  | sl k ex xs b o cap cv h1 h2 h3 h4 h5 h6 => exact (VR.sl k ex xs b o cap cv h1 h2 h3 h4 h5 h6).goodT h.I (goodC_good hc)
  | fn g fs cs gs vs h1 h2 h3 h4 h5 => exact (VR.fn g fs cs gs vs h1 h2 h3 h4 h5).goodT h.I (goodC_good hc)
  | agg => simp [AV.gclI, AV.goodC] at hc
  | tup => simp [AV.gclI, AV.goodC] at hc
  | lp => simp [AV.gclI, AV.goodC] at hc
  | ls => simp [AV.gclI, AV.goodC] at hc
  | rp => simp [AV.gclI, AV.goodC] at hc
  | dead => simp [AV.gclI, AV.goodC] at hc
theorem renC1_isCell {f : Nat → Nat} {c : AV} (h : c.isCell = true) : (renC1 f c).isCell = true := by cases c <;> exact h
theorem renC_isCell {f : Nat → Nat} {c : AV} (h : c.isCell = true) : (renC f c).isCell = true := by cases c <;> exact h
theorem Mv.cell {w w' : World} {m m' : Mp} {f : Nat → Nat} {R : Nat → Prop} (h : Mv w w' m m' f R) {c : AV} {v : Value} (hv : VR w m c v) (hc : c.gclC = true) (hr : ∀ r ∈ refsC c, R r) : VR w' m' (renC f c) v := by
  by_cases hf : ∃ g fs cs, c = .fn g fs cs
  · obtain ⟨g, fs, cs, rfl⟩ := hf
    cases hv with
    | fn _ _ _ gs vs h1 h2 h3 h4 h5 =>
    simp only [AV.gclC, Bool.and_eq_true, List.all_eq_true] at hc
    simp only [renC]
    refine .fn g fs (cs.map (renC1 f)) gs vs h1 (by simpa using h2) (fun c hc' => ?_) (fun i c v hcc hv => (h4 i c v hcc hv).goodT h.I (hc.1 c (List.mem_of_getElem? hcc))) fun i c v hcc hv => ?_
    · obtain ⟨d, hd, rfl⟩ := List.mem_map.1 hc'
      exact renC1_isCell (h3 d hd)
    · simp only [List.getElem?_map, Option.map_eq_some_iff] at hcc
      obtain ⟨d, hd, rfl⟩ := hcc
      refine h.cell1 (h5 i d v hd hv) (hc.2 d (List.mem_of_getElem? hd)) fun r hrr => hr r ?_
      simp only [refsC, List.mem_flatMap]
      exact ⟨d, List.mem_of_getElem? hd, hrr⟩
  · have e : renC f c = renC1 f c := by cases c <;> first | rfl | exact absurd ⟨_, _, _, rfl⟩ hf
    rw [e]
    refine h.cell1 hv ?_ fun r hrr => hr r ?_
    · cases hv <;> first | rfl | exact absurd ⟨_, _, _, rfl⟩ hf | (simp [AV.gclC] at hc)
    · cases c <;> first | exact hrr | cases hrr
/-- The cells of a value. -/
def gclV (a : AV) : Prop := a.known = true ∧ ∀ c ∈ a.cells, c.gclC = true
theorem renV1_cells {f : Nat → Nat} {a : AV} (h : a.known = true) : (renV1 f a).cells = a.cells.map (renC f) ∧ (renV1 f a).known = true := by
  by_cases ha : ∃ cs, a = .agg cs
  · obtain ⟨cs, rfl⟩ := ha
    simp only [AV.known, List.all_eq_true] at h
    refine ⟨rfl, ?_⟩
    simp only [renV1, AV.known, List.all_eq_true]
    intro c hc
    obtain ⟨d, hd, rfl⟩ := List.mem_map.1 hc
    exact renC_isCell (h d hd)
  · have hc : a.isCell = true := by cases a <;> first | exact absurd ⟨_, rfl⟩ ha | exact h
    have e : renV1 f a = renC f a := by cases a <;> first | rfl | exact absurd ⟨_, rfl⟩ ha
    have hc' := renC_isCell (f := f) hc
    rw [e, cell_cells hc', cell_cells hc]
    exact ⟨rfl, cell_known hc'⟩
theorem refsV_cells {a : AV} (h : a.known = true) : refsV a = a.cells.flatMap refsC := by
  by_cases ha : ∃ cs, a = .agg cs
  · obtain ⟨cs, rfl⟩ := ha
    rfl
  · have hc : a.isCell = true := by cases a <;> first | exact absurd ⟨_, rfl⟩ ha | exact h
    rw [cell_cells hc]
    cases a <;> first | (simp [AV.isCell] at hc; done) | exact absurd ⟨_, rfl⟩ ha | simp [refsV]
theorem renV_known {f : Nat → Nat} {a : AV} (h : a.known = true) : renV f a = renV1 f a := by
  cases a <;> first | rfl | simp [AV.known, AV.isCell] at h
theorem Mv.val {w w' : World} {m m' : Mp} {f : Nat → Nat} {R : Nat → Prop} (h : Mv w w' m m' f R) {a : AV} {v : Value} (hv : VR w m a v) (hg : gclV a) (hr : ∀ r ∈ refsV a, R r) : VR w' m' (renV1 f a) v := by
  rw [refsV_cells hg.1] at hr
  have hr' : ∀ c ∈ a.cells, ∀ r ∈ refsC c, R r := fun c hc r hrr => hr r (List.mem_flatMap.2 ⟨c, hc, hrr⟩)
  by_cases ha : ∃ cs, a = .agg cs
  · obtain ⟨cs, rfl⟩ := ha
    obtain ⟨vs, rfl, h1, h2, h3⟩ := hv.aggI
    simp only [renV1]
    refine .agg _ vs (by simpa using h1) (fun c hc => ?_) fun i c u hc hu => ?_
    · obtain ⟨d, hd, rfl⟩ := List.mem_map.1 hc
      exact renC_isCell (h2 d hd)
    · simp only [List.getElem?_map, Option.map_eq_some_iff] at hc
      obtain ⟨d, hd, rfl⟩ := hc
      have hm := List.mem_of_getElem? hd
      exact h.cell (h3 i d u hd hu) (hg.2 d hm) (hr' d hm)
  · have hc : a.isCell = true := by cases a <;> first | exact absurd ⟨_, rfl⟩ ha | exact hg.1
    have e : renV1 f a = renC f a := by cases a <;> first | rfl | exact absurd ⟨_, rfl⟩ ha
    rw [e]
    have hm : a ∈ a.cells := by rw [cell_cells hc]; simp
    exact h.cell hv (hg.2 a hm) (hr' a hm)
/-- What a call may give back. -/
def resOk : AV → Prop
  | .tup cs => ∀ c ∈ cs, gclV c
  | v => gclV v
theorem Mv.res {w w' : World} {m m' : Mp} {f : Nat → Nat} {R : Nat → Prop} (h : Mv w w' m m' f R) {a : AV} {v : Value} (hv : VR w m a v) (hg : resOk a) (hr : ∀ r ∈ refsV a, R r) : VR w' m' (renV f a) v := by
  by_cases ha : ∃ cs, a = .tup cs
  · obtain ⟨cs, rfl⟩ := ha
    cases hv with
    | tup _ vs h1 h2 =>
    simp only [renV]
    refine .tup _ vs (by simpa using h1) fun i c u hc hu => ?_
    simp only [List.getElem?_map, Option.map_eq_some_iff] at hc
    obtain ⟨d, hd, rfl⟩ := hc
    have hm := List.mem_of_getElem? hd
    refine h.val (h2 i d u hd hu) (hg d hm) fun r hrr => hr r ?_
    simp only [refsV, List.mem_flatMap]
    refine ⟨d, hm, ?_⟩
    have := hg d hm
    cases d <;> first | exact hrr | simp [gclV, AV.known, AV.isCell] at this
  · have hg' : gclV a := by cases a <;> first | exact absurd ⟨_, rfl⟩ ha | exact hg
    rw [renV_known hg'.1]
    exact h.val hv hg' hr
/-- The references of what lies in memory are to objects. -/
theorem refsC_lt {w : World} {m : Mp} {c : AV} {v : Value} (hv : VR w m c v) {r : Nat} (hr : r ∈ refsC c) : (∃ x, m.gb r = some x) ∨ ∃ x, m.ga r = some x := by
  cases hv <;> simp only [refsC, List.mem_singleton, List.not_mem_nil] at hr
  case gp r' i j b k hb => subst hr; exact .inl ⟨_, hb⟩
  case gs r' i n k xs b0 b o cap cv h1 h2 h3 h4 h5 h6 h7 => subst hr; exact .inr ⟨_, h1⟩
  case fn f fs cs gs vs h1 h2 h3 h4 h5 =>
    simp only [List.mem_flatMap] at hr
    obtain ⟨d, hd, hr⟩ := hr
    obtain ⟨i, hi⟩ := List.getElem?_of_mem hd
    have hlt := getElem?_lt hi
    have hv' := h5 i d (vs[i]'(by omega)) hi (by simp)
    generalize vs[i]'(by omega) = u at hv'
    cases hv' <;> simp only [refsI, List.mem_singleton, List.not_mem_nil] at hr
    case gp r' i j b k hb => subst hr; exact .inl ⟨_, hb⟩
    case gs r' i n k xs b0 b o cap cv g1 g2 g3 g4 g5 g6 g7 => subst hr; exact .inr ⟨_, g1⟩
theorem mkM_ref {w : World} {l : Ls} {g : Gs} {bl bg : Bl} {r : Nat} (h : (∃ x, (mkM w l g bl bg).gb r = some x) ∨ ∃ x, (mkM w l g bl bg).ga r = some x) : r < g.length := by
  rcases h with ⟨x, hx⟩ | ⟨x, hx⟩ <;>
  · simp only [mkM] at hx
    split at hx
    · rename_i o ho; exact getElem?_lt ho
    · cases hx
theorem ObR.refs_lt {w : World} {l : Ls} {g : Gs} {bl bg : Bl} {o : Ob} {b : Nat} (h : ObR w (mkM w l g bl bg) o b) {x : AV} (hx : x ∈ o.xs) {r : Nat} (hr : r ∈ refsV x) : r < g.length := by
  rw [refsV_cells (h.len x hx).2, List.mem_flatMap] at hr
  obtain ⟨c, hc, hr⟩ := hr
  obtain ⟨cs, e, _, _, hv⟩ := h.mem
  obtain ⟨i, hi⟩ := List.getElem?_of_mem hx
  obtain ⟨j, hj⟩ := List.getElem?_of_mem hc
  obtain ⟨u, _, hvr⟩ := hv i j x c hi hj
  exact mkM_ref (refsC_lt hvr hr)
/-- An object in another frame. -/
theorem Mv.ob {w w' : World} {m m' : Mp} {f : Nat → Nat} {R : Nat → Prop} (h : Mv w w' m m' f R) {o : Ob} {b : Nat} (ho : ObR w m o b) (hG : GOk o) (hr : ∀ r ∈ refsO o, R r) (hb : w'.heap[b]? = w.heap[b]?) : ObR w' m' (renO f o) b ∧ GOk (renO f o) := by
  obtain ⟨cs, e, h1, h2, h3⟩ := ho.mem
  by_cases harr : o.arr = true
  · have e0 : renO f o = o := by simp [renO, harr]
    rw [e0]
    have hok := ho.ok (hG.ok harr)
    refine ⟨⟨ho.len, ho.ok, cs, e, by unfold blk; rw [hb]; exact h1, h2, fun i j x c hx hc => ?_⟩, hG⟩
    obtain ⟨v, hv, hvr⟩ := h3 i j x c hx hc
    exact ⟨v, hv, hvr.goodT h.I (goodC_good (good_cells (hok x (List.mem_of_getElem? hx)) c (List.mem_of_getElem? hc)))⟩
  · have harr' : o.arr = false := by simpa using harr
    have e0 : renO f o = { o with xs := o.xs.map (renV1 f) } := by simp [renO, harr']
    have hrx : ∀ x ∈ o.xs, ∀ c ∈ x.cells, ∀ r ∈ refsC c, R r := fun x hx c hc r hrr => hr r (by
      simp only [refsO, harr', Bool.false_eq_true, if_false, List.mem_flatMap]
      exact ⟨x, hx, by rw [refsV_cells (ho.len x hx).2]; exact List.mem_flatMap.2 ⟨c, hc, hrr⟩⟩)
    rw [e0]
    refine ⟨⟨fun x hx => ?_, fun hk x hx => ?_, cs, e, by unfold blk; rw [hb]; exact h1, by simpa using h2, fun i j x c hx hc => ?_⟩, ⟨fun hh => absurd (hh.symm.trans harr') (by simp), fun x hx c hc => ?_⟩⟩
    · obtain ⟨y, hy, rfl⟩ := List.mem_map.1 hx
      have := renV1_cells (f := f) (ho.len y hy).2
      exact ⟨by rw [this.1]; simpa using (ho.len y hy).1, this.2⟩
    · obtain ⟨y, hy, rfl⟩ := List.mem_map.1 hx
      have hgy := ho.ok hk y hy
      have : renV1 f y = y := renV1_good hgy
      rw [this]
      exact hgy
    · simp only [List.getElem?_map, Option.map_eq_some_iff] at hx
      obtain ⟨y, hy, rfl⟩ := hx
      have hm := List.mem_of_getElem? hy
      rw [(renV1_cells (ho.len y hm).2).1] at hc
      simp only [List.getElem?_map, Option.map_eq_some_iff] at hc
      obtain ⟨d, hd, rfl⟩ := hc
      obtain ⟨v, hv, hvr⟩ := h3 i j y d hy hd
      have hdm := List.mem_of_getElem? hd
      exact ⟨v, hv, h.cell hvr (hG.cl y hm d hdm) (hrx y hm d hdm)⟩
    · obtain ⟨y, hy, rfl⟩ := List.mem_map.1 hx
      rw [(renV1_cells (ho.len y hy).2).1] at hc
      obtain ⟨d, hd, rfl⟩ := List.mem_map.1 hc
      have := hG.cl y hy d hd
      cases d <;> simp_all [renC, AV.gclC, AV.goodC]
      rename_i ff fs cs
      intro q hq
      have h2 := this.2 q hq
      cases q <;> simp_all [renC1, AV.gclI, AV.goodC]
end Go.AE
