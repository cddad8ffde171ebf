import Derived.Test.YtmomeccgdpidiaaAe7
import Derived.Deep.AppendSrc
/-! Rows: read, filled, turned into a string. -/
namespace Go.AE
open Go.RowKit

/-- The elements of a row lie at a place. -/
def rowAt (w : World) (m : Mp) (xs : List AV) (k b o : Nat) : Prop := ∀ (i j : Nat) (x c : AV), xs[i]? = some x → x.cells[j]? = some c → ∃ v, w.cell? ⟨b, o + (i * k + j), none⟩ = some v ∧ VR w m c v
/-- The cells of a list of elements. -/
structure Flat (w : World) (m : Mp) (xs : List AV) (k : Nat) (us : List Value) : Prop where
  len : us.length = xs.length * k
  val : ∀ (i j : Nat) (x c : AV), xs[i]? = some x → x.cells[j]? = some c → ∃ u, us[i * k + j]? = some u ∧ VR w m c u
  one : ∀ u ∈ us, u.oneCell' = true
theorem flat_of {w : World} {m : Mp} {k b : Nat} : ∀ {xs : List AV} {o : Nat}, (∀ x ∈ xs, x.cells.length = k ∧ x.known = true) → rowAt w m xs k b o →
    ∃ us : List Value, Flat w m xs k us ∧ ∀ (j : Nat) (u : Value), us[j]? = some u → w.cell? ⟨b, o + j, none⟩ = some u
  | [], o, _, _ => ⟨[], ⟨by simp, by simp, by simp⟩, by simp⟩
  | x :: xs, o, hk, hr => by
    obtain ⟨us, h1, h2⟩ := flat_of (xs := xs) (o := o + k) (fun y hy => hk y (by simp [hy])) fun i j y c hy hc => by
      obtain ⟨v, hv, hvr⟩ := hr (i + 1) j y c (by simpa using hy) hc
      exact ⟨v, by rw [← hv]; congr 2; rw [Nat.add_mul]; omega, hvr⟩
    obtain ⟨vs, g1, g2, g3⟩ := lies_vals (w := w) (m := m) (cs := x.cells) (b := b) (p := o) fun j c hc => by
      obtain ⟨v, hv, hvr⟩ := hr 0 j x c rfl hc
      exact ⟨v, by rw [← hv]; congr 2; omega, hvr⟩
    have hxk := hk x (by simp)
    refine ⟨vs ++ us, ⟨?_, fun i j y c hy hc => ?_, fun u hu => ?_⟩, fun j u hu => ?_⟩
    · rw [List.length_append, g1, h1.len, hxk.1, List.length_cons, Nat.add_mul]; omega
    · cases i with
      | zero =>
        simp at hy
        subst hy
        have hj := getElem?_lt hc
        have hj' : j < vs.length := by omega
        refine ⟨vs[j], ?_, g3 j c _ hc (by simp)⟩
        rw [Nat.zero_mul, Nat.zero_add, List.getElem?_append_left hj']
        simp
      | succ i =>
        obtain ⟨u, hu, hur⟩ := h1.val i j y c (by simpa using hy) hc
        refine ⟨u, ?_, hur⟩
        rw [List.getElem?_append_right (by rw [g1, hxk.1, Nat.add_mul]; omega), g1, hxk.1, ← hu]
        congr 1
        rw [Nat.add_mul]; omega
    · rcases List.mem_append.1 hu with hu | hu
      · obtain ⟨j, hj⟩ := List.getElem?_of_mem hu
        have hlt := getElem?_lt hj
        have hc : x.cells[j]? = some (x.cells[j]'(by omega)) := by simp
        exact (g3 j _ u hc hj).cell (known_cells hxk.2 _ (List.mem_of_getElem? hc))
      · exact h1.one u hu
    · by_cases hj : j < vs.length
      · rw [List.getElem?_append_left hj] at hu
        exact g2 j u hu
      · rw [List.getElem?_append_right (by omega)] at hu
        have := h2 _ u hu
        rw [← this]
        congr 2
        rw [g1, hxk.1] at hj ⊢
        omega
theorem Flat.mono {w w' : World} {m m' : Mp} (hl : Le w w' m m') {xs : List AV} {k : Nat} {us : List Value} (h : Flat w m xs k us) : Flat w' m' xs k us :=
  ⟨h.len, fun i j x c hx hc => let ⟨u, h1, h2⟩ := h.val i j x c hx hc; ⟨u, h1, h2.mono hl⟩, h.one⟩
theorem Flat.append {w : World} {m : Mp} {xs ys : List AV} {k : Nat} {us vs : List Value} (h : Flat w m xs k us) (g : Flat w m ys k vs) (hk : ∀ x ∈ xs, x.cells.length = k) : Flat w m (xs ++ ys) k (us ++ vs) where
  len := by rw [List.length_append, h.len, g.len, List.length_append, Nat.add_mul]
  val := fun i j x c hx hc => by
    by_cases hi : i < xs.length
    · rw [List.getElem?_append_left hi] at hx
      obtain ⟨u, hu, hr⟩ := h.val i j x c hx hc
      exact ⟨u, by rw [List.getElem?_append_left (getElem?_lt hu)]; exact hu, hr⟩
    · rw [List.getElem?_append_right (by omega)] at hx
      obtain ⟨u, hu, hr⟩ := g.val _ j x c hx hc
      refine ⟨u, ?_, hr⟩
      have : xs.length * k ≤ i * k := Nat.mul_le_mul_right k (by omega)
      rw [List.getElem?_append_right (by rw [h.len]; omega), h.len, ← hu]
      congr 1
      rw [Nat.sub_mul]
      omega
  one := fun u hu => (List.mem_append.1 hu).elim (h.one u) (g.one u)

/-- A row that is read. -/
structure RowV (w : World) (m : Mp) (xs : List AV) (k : Nat) (u : Value) : Prop where
  len : ∀ x ∈ xs, x.cells.length = k ∧ x.known = true
  at_ : (xs = [] ∧ u = .slice none 0 0) ∨ ∃ b o cap, u = .slice (some ⟨b, o, none⟩) xs.length cap ∧ xs.length ≤ cap ∧ rowAt w m xs k b o
theorem rowOf_spec {w : World} {l : Ls} {g : Gs} {bl bg : Bl} (hsr : SR w l g bl bg) {x : AV} {xs : List AV} {fp : Fp} (h : rowOf l g x = some (xs, fp)) {u : Value} (hx : VR w (mkM w l g bl bg) x u) : ∃ k, RowV w (mkM w l g bl bg) xs k u := by
  cases x <;> simp only [rowOf] at h <;> try cases h
  case nils =>
    cases hx
    exact ⟨0, by simp, .inl ⟨rfl, rfl⟩⟩
  case sl k ex =>
    cases hx with
    | sl _ _ _ b o cap cv c1 c2 c3 c4 c5 c6 =>
    exact ⟨k, fun x hx => ⟨(c3 x hx).2, good_known (c3 x hx).1⟩, .inr ⟨b, o, cap, rfl, c1, fun i j x c hx hc => ⟨cv i j, c4 i j x c hx hc, c6 i j x c hx hc⟩⟩⟩
  case ls d ver i n =>
    split at h
    · rename_i v' o hlo
      split at h
      · rename_i hc
        obtain ⟨rfl, harr, hle⟩ := hc
        injection h with h
        injection h with h h'
        subst h
        cases hx with
        | ls _ _ _ _ ad cap c0 c1 c2 =>
        obtain ⟨rfl, _⟩ := c2 (by simp [mkM, hlo, LO.ver]) (bl d) o.k (by simp [mkM, hlo])
        have ho := hsr.ol d v' o hlo
        have hlen : ((o.xs.drop i).take n).length = n := by simp; omega
        refine ⟨o.k, fun x hx => ho.len x (List.mem_of_mem_drop (List.mem_of_mem_take hx)), .inr ⟨bl d, i * o.k, cap, by rw [hlen], by omega, fun p j x c hx hc => ?_⟩⟩
        have hp := getElem?_lt hx
        rw [hlen] at hp
        rw [List.getElem?_take_of_lt hp, List.getElem?_drop] at hx
        obtain ⟨v, hv, hr⟩ := ho.lies hx j c hc
        exact ⟨v, by rw [← hv]; congr 2; rw [Nat.add_mul]; omega, hr⟩
      · cases h
    · cases h
  case gs r i n =>
    simp only [Option.bind_eq_some_iff] at h
    obtain ⟨o, ho, h⟩ := h
    split at h
    · rename_i hc
      obtain ⟨harr, hle⟩ := hc
      injection h with h
      injection h with h h'
      subst h
      cases hx with
      | gs _ _ _ k xs b0 b of cap cv g1 g2 g3 g4 g5 g6 g7 =>
      have hga := g1
      simp only [mkM, ho, harr, if_true, Option.some.injEq, Prod.mk.injEq] at hga
      obtain ⟨rfl, rfl, _⟩ := hga
      have hlen : ((o.xs.drop i).take n).length = n := by simp; omega
      have hob := (hsr.og r o ho).1
      refine ⟨o.k, fun x hx => hob.len x (List.mem_of_mem_drop (List.mem_of_mem_take hx)), .inr ⟨b, of, cap, by rw [hlen], by omega, fun p j x c hx hc => ?_⟩⟩
      have hp := getElem?_lt hx
      rw [hlen] at hp
      rw [List.getElem?_take_of_lt hp, List.getElem?_drop] at hx
      exact ⟨cv p j, g4 p j x c hp hx hc, g6 p j x c hp hx hc⟩
    · cases h

/-! ### Conversions -/
theorem bytesOfA_spec : ∀ {xs : List AV} {bs : List UInt8}, bytesOfA xs = some bs → ∃ ns : List Int, xs = ns.map (AV.int .u8) ∧ bs = ns.map fun n => UInt8.ofNat n.toNat
  | [], bs, h => by
    simp [bytesOfA] at h
    subst h
    exact ⟨[], rfl, rfl⟩
  | x :: xs, bs, h => by
    unfold bytesOfA at h
    split at h
    · cases ‹x :: xs = []›
    · rename_i n l e
      injection e with e1 e2
      subst e1 e2
      simp only [Option.bind_eq_some_iff] at h
      obtain ⟨r, hr, h⟩ := h
      injection h with h
      subst h
      obtain ⟨ns, rfl, rfl⟩ := bytesOfA_spec hr
      exact ⟨n :: ns, rfl, rfl⟩
    · cases h
theorem convA_run {P : Program} {w : World} {l : Ls} {g : Gs} {bl bg : Bl} (hsr : SR w l g bl bg) {src dst : TypeId} {x v : AV} {fp : Fp} (h : convA P src dst x l g = some (v, fp)) {u : Value} (hx : VR w (mkM w l g bl bg) x u) :
    ∃ u', (convert src dst u).run P w = .ok u' w ∧ VR w (mkM w l g bl bg) v u' := by
  unfold convA at h
  split at h
  · rename_i d k k' n h1 h2
    injection h with h
    injection h with h h'
    subst h
    rw [hx.intI]
    exact ⟨.int k (k.wrap n), by simp [convert, run_underlying h1, run_underlying h2, Conv.intToInt], .int _ _⟩
  · rename_i s h1 h2
    injection h with h
    injection h with h h'
    subst h
    obtain ⟨z, rfl, hz⟩ := hx.strI
    exact ⟨.string z, by simp [convert, run_underlying h1, run_underlying h2], hx⟩
  · rename_i e hs hd
    split at h
    · rename_i he
      simp only [Option.bind_eq_some_iff] at h
      obtain ⟨⟨xs, fp'⟩, hrow, bs, hbs, h⟩ := h
      injection h with h
      injection h with h h'
      subst h
      obtain ⟨k, hlen, hat⟩ := rowOf_spec hsr hrow hx
      obtain ⟨ns, rfl, rfl⟩ := bytesOfA_spec hbs
      rcases hat with ⟨h0, rfl⟩ | ⟨b, o, cap, rfl, hcap, hra⟩
      · have : ns = [] := by simpa using h0
        subst this
        exact ⟨_, run_convert_bytes_nil w src e hs he 0 0 dst hd, VR.str ByteArray.empty⟩
      · have hstr := run_convert_bytes_arg (P := P) w src e hs he b o (ns.map (AV.int .u8)).length cap ns (by simp) (fun i hi => ?_) dst hd
        · refine ⟨_, hstr, ?_⟩
          rw [← strOfNums_data]
          exact .str _
        · simp only [List.length_map] at hi
          have hx0 : (ns.map (AV.int .u8))[i]? = some (.int .u8 ns[i]) := by simp [hi]
          have hk : k = 1 := by
            have := (hlen _ (List.mem_of_getElem? hx0)).1
            simpa [AV.cells] using this.symm
          subst hk
          obtain ⟨v, hv, hr⟩ := hra i 0 _ (.int .u8 ns[i]) hx0 rfl
          rw [hr.intI] at hv
          rw [← show o + (i * 1 + 0) = o + i by omega, hv]
          simp [List.getD, hi]
    · cases h
  · cases h

/-! ### Parts at their places -/
theorem foldl_set {vs : List Value} : ∀ {s off : Nat} {cells : Array Value}, off + s + vs.length ≤ cells.size →
    ((vs.zipIdx s).foldl (fun (cs : Array Value) (x : Value × Nat) => cs.setIfInBounds (off + x.2) x.1) cells).size = cells.size ∧
    ∀ p, ((vs.zipIdx s).foldl (fun (cs : Array Value) (x : Value × Nat) => cs.setIfInBounds (off + x.2) x.1) cells)[p]? = if off + s ≤ p ∧ p < off + s + vs.length then vs[p - (off + s)]? else cells[p]? := by
  induction vs with
  | nil =>
    intro s off cells _
    refine ⟨rfl, fun p => ?_⟩
    rw [if_neg (by simp)]
    rfl
  | cons v vs ih =>
    intro s off cells h
    simp only [List.length_cons] at h
    simp only [List.zipIdx_cons, List.foldl_cons]
    obtain ⟨h1, h2⟩ := ih (s := s + 1) (off := off) (cells := cells.setIfInBounds (off + s) v) (by simp; omega)
    refine ⟨by rw [h1]; simp, fun p => ?_⟩
    rw [h2 p, Array.getElem?_setIfInBounds]
    by_cases hp : p = off + s
    · subst hp
      rw [if_neg (by omega), if_pos rfl, if_pos (by omega), if_pos (by simp)]
      simp
    · by_cases hq : off + (s + 1) ≤ p ∧ p < off + (s + 1) + vs.length
      · rw [if_pos hq, if_pos (by simp only [List.length_cons]; omega), show p - (off + s) = (p - (off + (s + 1))) + 1 by omega]
        simp
      · rw [if_neg hq, if_neg (by omega), if_neg (by simp only [List.length_cons]; omega)]
theorem foldl_setA (v : Array Value) (off : Nat) (cells : Array Value) (h : off + v.size ≤ cells.size) :
    (v.zipIdx.foldl (fun cs (x : Value × Nat) => match x with | (c, j) => cs.setIfInBounds (off + j) c) cells).size = cells.size ∧
    ∀ p, (v.zipIdx.foldl (fun cs (x : Value × Nat) => match x with | (c, j) => cs.setIfInBounds (off + j) c) cells)[p]? = if off ≤ p ∧ p < off + v.size then v[p - off]? else cells[p]? := by
  have e : v.zipIdx.foldl (fun cs (x : Value × Nat) => match x with | (c, j) => cs.setIfInBounds (off + j) c) cells = (v.toList.zipIdx 0).foldl (fun (cs : Array Value) (x : Value × Nat) => cs.setIfInBounds (off + x.2) x.1) cells := by
    rw [← Array.foldl_toList]
    simp
  rw [e]
  have := foldl_set (vs := v.toList) (s := 0) (off := off) (cells := cells) (by simpa using h)
  simpa using this
/-- Cells of a value. -/
structure CsR (w : World) (m : Mp) (cs : List AV) (vs : Array Value) : Prop where
  len : cs.length = vs.size
  cell : ∀ c ∈ cs, c.isCell = true
  val : ∀ (i : Nat) (c : AV) (u : Value), cs[i]? = some c → vs[i]? = some u → VR w m c u
theorem CsR.agg {w : World} {m : Mp} {cs : List AV} {vs : Array Value} (h : CsR w m cs vs) : VR w m (.agg cs) (.agg vs) := .agg cs vs h.len h.cell h.val
theorem VR.csr {w : World} {m : Mp} {a : AV} {v : Value} (h : VR w m a v) (hk : a.known = true) : CsR w m a.cells v.cells := ⟨(h.cells hk).1.symm, (h.cells hk).2.1, (h.cells hk).2.2⟩
/-- Parts. -/
def PsR (w : World) (m : Mp) (ps : List (Nat × AV)) (us : List (Nat × Value)) : Prop := ps.length = us.length ∧ ∀ (i : Nat) (p : Nat × AV) (u : Nat × Value), ps[i]? = some p → us[i]? = some u → p.1 = u.1 ∧ VR w m p.2 u.2
theorem PsR.cons {w : World} {m : Mp} {p : Nat × AV} {ps : List (Nat × AV)} {us : List (Nat × Value)} (h : PsR w m (p :: ps) us) : ∃ u us', us = u :: us' ∧ p.1 = u.1 ∧ VR w m p.2 u.2 ∧ PsR w m ps us' := by
  obtain ⟨h1, h2⟩ := h
  cases us with
  | nil => simp at h1
  | cons u us => exact ⟨u, us, rfl, (h2 0 p u rfl rfl).1, (h2 0 p u rfl rfl).2, by simpa using h1, fun i a b ha hb => h2 (i + 1) a b (by simpa using ha) (by simpa using hb)⟩
theorem fillA_run {w : World} {m : Mp} {place : Nat → Option (Nat × Nat)} : ∀ {ps : List (Nat × AV)} {cs cs' : List AV} {us : List (Nat × Value)} {vs : Array Value}, fillA place ps cs = some cs' → PsR w m ps us → CsR w m cs vs →
    ∃ vs', Instr.fill place vs us = some vs' ∧ CsR w m cs' vs'
  | [], cs, cs', us, vs, h, hp, hc => by
    simp [fillA] at h
    subst h
    have : us = [] := List.eq_nil_of_length_eq_zero hp.1.symm
    subst this
    exact ⟨vs, rfl, hc⟩
  | (i, v) :: ps, cs, cs', us, vs, h, hp, hc => by
    obtain ⟨⟨i', u⟩, us', rfl, e1, hvr, hps⟩ := hp.cons
    simp only at e1 hvr
    subst e1
    simp only [fillA, Option.bind_eq_some_iff] at h
    obtain ⟨⟨off, size⟩, hpl, h⟩ := h
    split at h
    · rename_i hcond
      obtain ⟨hkn, hsz, hle⟩ := hcond
      have hv := hvr.csr hkn
      have hus : u.cells.size = size := by rw [← hv.len, hsz]
      obtain ⟨f1, f2⟩ := foldl_setA u.cells off vs (by rw [hus, ← hc.len]; exact hle)
      have hc' : CsR w m (cs.take off ++ v.cells ++ cs.drop (off + size)) (u.cells.zipIdx.foldl (fun cs (x : Value × Nat) => match x with | (c, j) => cs.setIfInBounds (off + j) c) vs) := by
        refine ⟨?_, fun c hcm => ?_, fun p c x hcp hxp => ?_⟩
        · rw [f1, ← hc.len]; simp; omega
        · simp only [List.mem_append] at hcm
          rcases hcm with (h1 | h1) | h1
          · exact hc.cell c (List.mem_of_mem_take h1)
          · exact hv.cell c h1
          · exact hc.cell c (List.mem_of_mem_drop h1)
        · rw [f2 p] at hxp
          rw [hus] at hxp
          rcases Nat.lt_or_ge p off with h1 | h1
          · rw [if_neg (by omega)] at hxp
            rw [List.append_assoc, List.getElem?_append_left (by simp; omega), List.getElem?_take_of_lt h1] at hcp
            exact hc.val p c x hcp hxp
          · rcases Nat.lt_or_ge p (off + size) with h2 | h2
            · rw [if_pos ⟨h1, h2⟩] at hxp
              rw [List.append_assoc, List.getElem?_append_right (by simp; omega), List.getElem?_append_left (by simp; omega)] at hcp
              refine hv.val (p - off) c x ?_ hxp
              rw [← hcp]; congr 1; simp; omega
            · rw [if_neg (by omega)] at hxp
              rw [List.getElem?_append_right (by simp; omega), List.getElem?_drop] at hcp
              refine hc.val p c x ?_ hxp
              rw [← hcp]; congr 1; simp; omega
      obtain ⟨vs', hf, hr⟩ := fillA_run h hps hc'
      refine ⟨vs', ?_, hr⟩
      simp only [Instr.fill, hpl]
      have hle' : ¬ off + u.cells.size > vs.size := by rw [hus, ← hc.len]; omega
      simp only [hus, ne_eq, not_true, decide_false, Bool.false_or]
      rw [if_neg (by rw [← hus]; simpa using hle')]
      exact hf
    · cases h
theorem allSome_mapM {α β : Type} (f : α → Option β) : ∀ (l : List α), l.mapM f = allSome f l
  | [] => rfl
  | x :: l => by
    rw [List.mapM_cons, allSome_mapM f l]
    rfl
theorem VR.aggOfZ {w : World} {m : Mp} {P : Program} {t : TypeId} {z : AV} (h : zeroP P t = some z) : ∃ i u, P.info? t = some i ∧ i.zero = some u ∧ VR w m z u := by
  unfold zeroP at h
  cases hi : P.info? t with
  | none => simp [hi] at h
  | some i =>
    cases hz : i.zero with
    | none => simp [hi, hz] at h
    | some u =>
      simp [hi, hz] at h
      exact ⟨i, u, rfl, hz, ofValue_VR h⟩
theorem buildA_run {P : Program} {w : World} {m : Mp} {t : TypeId} {ps : List (Nat × AV)} {v : AV} (h : buildA P t ps = some v) {us : Array (Nat × Value)} (hp : PsR w m ps us.toList) : ∃ u, (Instr.build t us).run P w = .ok u w ∧ VR w m v u := by
  unfold buildA at h
  simp only [Option.bind_eq_some_iff] at h
  obtain ⟨z, hz, h⟩ := h
  obtain ⟨i, zu, hi, hiz, hzr⟩ := VR.aggOfZ (w := w) (m := m) hz
  split at h
  · cases h
  · rename_i hkn
    have hzc := hzr.csr (by simpa using hkn)
    split at h
    · rename_i fs hu
      simp only [Option.bind_eq_some_iff] at h
      obtain ⟨pl, hpl, cs, hf, h⟩ := h
      injection h with h
      subst h
      obtain ⟨vs', hf', hr⟩ := fillA_run hf hp hzc
      refine ⟨.agg vs', run_build w t us vs' ?_, hr.agg⟩
      unfold Program.built
      rw [← allSome_mapM] at hpl
      simp only [hi, hu, hiz, hpl]
      rw [← hf']
      congr 1
      funext k
      simp
    · rename_i n e hu
      simp only [Option.bind_eq_some_iff] at h
      obtain ⟨s, hs, cs, hf, h⟩ := h
      injection h with h
      subst h
      obtain ⟨vs', hf', hr⟩ := fillA_run hf hp hzc
      obtain ⟨ie, hie, rfl⟩ := szP_size hs
      refine ⟨.agg vs', run_build w t us vs' ?_, hr.agg⟩
      unfold Program.built
      simp only [hi, hu, hiz, hie]
      exact hf'
    · cases h
end Go.AE
