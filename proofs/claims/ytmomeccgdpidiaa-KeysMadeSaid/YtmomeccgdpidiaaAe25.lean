import Derived.Test.YtmomeccgdpidiaaAe24
/-! Regions. -/
namespace Go.AE
open Go.RowKit

/-- Every order that is allowed. -/
def anyS (step : Oper → St → Option (St × Fp)) (ops : Array Oper) (ft : Nat → Fp) (G : St → Prop) : Nat → Array Bool → St → Prop
  | 0, listed, s => Region.ready .any ops listed = [] ∧ G s
  | n + 1, listed, s => (Region.ready .any ops listed = [] → G s) ∧ ∀ i ∈ Region.ready .any ops listed, ∃ o s', ops[i]? = some o ∧ step o s = some (s', ft i) ∧ anyS step ops ft G n (listed.setIfInBounds i true) s'
section
variable {P : Program} {eqs : TypeId → Option (List SK)} {orc : Nat → Option Orc} {call : Caller} {nt : Nat} {ops : Array Oper}
theorem anyS_seq (hL : ∀ o e, Loc (fun l g => aoper P eqs orc call o (opd e) l g)) {ft : Nat → Fp} {G : St → Prop} (hG : ∀ s t, Seq s t → G s → G t) : ∀ (n : Nat) (listed : Array Bool) (s t : St), Seq s t → anyS (stepA P eqs orc call nt ops) ops ft G n listed s → anyS (stepA P eqs orc call nt ops) ops ft G n listed t
  | 0, listed, s, t, h, ha => ⟨ha.1, hG s t h ha.2⟩
  | n + 1, listed, s, t, h, ha => ⟨fun hr => hG s t h (ha.1 hr), fun i hi => by
      obtain ⟨o, s', h1, h2, h3⟩ := ha.2 i hi
      obtain ⟨t', h4, h5⟩ := step_seq (ops := ops) hL h h2
      exact ⟨o, t', h1, h4, anyS_seq hL hG n _ s' t' h5 h3⟩⟩
theorem anyS_first (hL : ∀ o e, Loc (fun l g => aoper P eqs orc call o (opd e) l g)) {ft : Nat → Fp} {G : St → Prop} (hG : ∀ s t, Seq s t → G s → G t) {i : Nat} {oi : Oper} (hi : ops[i]? = some oi) :
    ∀ (n : Nat) (listed : Array Bool) (s s1 : St), stepA P eqs orc call nt ops oi s = some (s1, ft i) → i ∈ Region.ready .any ops listed →
      (∀ j oj, ops[j]? = some oj → j ≠ i → listed.getD j true = false → (∀ e ∈ oj.after, Region.binds .any e = true → e.on ≠ i) → apartA ops oi oj = true ∧ (ft i).clash (ft j) = false) →
      anyS (stepA P eqs orc call nt ops) ops ft G n (listed.setIfInBounds i true) s1 → anyS (stepA P eqs orc call nt ops) ops ft G (n + 1) listed s := by
  intro n
  induction n with
  | zero =>
    intro listed s s1 hs hr hfree H
    refine ⟨fun h => (by rw [h] at hr; cases hr), fun j hj => ?_⟩
    by_cases hji : j = i
    · subst hji; exact ⟨oi, s1, hi, hs, H⟩
    · have := ready_mono hj hji
      rw [H.1] at this
      cases this
  | succ n ih =>
    intro listed s s1 hs hr hfree H
    refine ⟨fun h => (by rw [h] at hr; cases hr), fun j hj => ?_⟩
    by_cases hji : j = i
    · subst hji; exact ⟨oi, s1, hi, hs, H⟩
    · obtain ⟨oj, s2, hoj, hs2, H2⟩ := H.2 j (ready_mono hj hji)
      obtain ⟨hjun, oj', hoj', hall⟩ := mem_ready.1 hj
      have hoe : oj' = oj := by rw [hoj] at hoj'; injection hoj' with h; exact h.symm
      subst hoe
      have hnot : ∀ e ∈ oj'.after, Region.binds .any e = true → e.on ≠ i := fun e he hb heq => by
        have h1 := hall e he hb
        have h0 := (mem_ready.1 hr).1
        rw [heq] at h1
        rcases Nat.lt_or_ge i listed.size with h' | h'
        · simp [h'] at h0 h1; rw [h0] at h1; cases h1
        · simp [Array.getElem?_eq_none h'] at h1
      obtain ⟨hap, hcl⟩ := hfree j oj' hoj hji hjun hnot
      obtain ⟨s1', s2', k1, k2, k3⟩ := step_comm (ops := ops) hL hs hs2 hap hcl
      refine ⟨oj', s1', hoj, k1, ih (listed.setIfInBounds j true) s1' s2' k2 (ready_mono hr (Ne.symm hji)) (fun k ok hk hki hun hno => ?_) ?_⟩
      · refine hfree k ok hk hki ?_ hno
        by_cases hjk : j = k
        · subst hjk; exact hjun
        · rw [getD_set_ne true hjk] at hun; exact hun
      · rw [Array.setIfInBounds_comm _ _ hji]
        exact anyS_seq hL hG n _ _ _ k3 H2
theorem freeA_spec {i : Nat} {o : Oper} {fp : Fp} : ∀ {l : List Oper} {qs : List Fp}, freeA ops i o fp l qs = true → ∀ (j : Nat) (b : Oper) (q : Fp), l[j]? = some b → qs[j]? = some q → (∀ e ∈ b.after, Region.binds .any e = true → e.on ≠ i) → apartA ops o b = true ∧ fp.clash q = false
  | [], _, _, j, b, q, hb, _, _ => by simp at hb
  | _ :: _, [], _, j, b, q, _, hq, _ => by simp at hq
  | b0 :: l, q0 :: qs, h, j, b, q, hb, hq, hn => by
    simp only [freeA, Bool.and_eq_true, Bool.or_eq_true, Bool.not_eq_true'] at h
    cases j with
    | zero =>
      simp at hb hq
      subst hb hq
      rcases h.1 with h1 | h1
      · obtain ⟨e, he, hb⟩ := Array.any_eq_true'.1 h1
        simp only [Bool.and_eq_true, beq_iff_eq] at hb
        exact absurd hb.1 (hn e he hb.2)
      · exact h1
    | succ j => exact freeA_spec h.2 j b q (by simpa using hb) (by simpa using hq) hn
theorem opsA_length {step : Oper → St → Option (St × Fp)} : ∀ {l : List Oper} {s s' : St} {fps : List Fp}, opsA step l s = some (s', fps) → fps.length = l.length
  | [], s, s', fps, h => by simp [opsA] at h; rw [h.2]; rfl
  | o :: l, s, s', fps, h => by
    simp only [opsA, Option.bind_eq_some_iff] at h
    obtain ⟨⟨s1, fp⟩, _, ⟨s2, fps'⟩, h2, h⟩ := h
    injection h with h
    injection h with _ h
    subst h
    simp [opsA_length h2]
/-- Those that come first in the text are done. -/
def firstK (n k : Nat) : Array Bool := (List.range n).map (fun i => decide (i < k)) |>.toArray
theorem firstK_get (n k i : Nat) (d : Bool) : (firstK n k).getD i d = if i < n then decide (i < k) else d := by
  unfold firstK
  by_cases h : i < n
  · simp [h]
  · simp [h]
theorem firstK_set (n k : Nat) (h : k < n) : (firstK n k).setIfInBounds k true = firstK n (k + 1) := by
  apply Array.ext
  · simp [firstK]
  · intro i h1 h2
    simp [firstK] at h1 ⊢
    rw [List.getElem_set]
    by_cases hik : k = i
    · subst hik; simp
    · simp [hik]; omega
theorem anyS_lex (hL : ∀ o e, Loc (fun l g => aoper P eqs orc call o (opd e) l g)) {G : St → Prop} (hG : ∀ s t, Seq s t → G s → G t) {F : List Fp} (hF : F.length = ops.size) :
    ∀ (l : List Oper) (k : Nat) (s s' : St) (fps : List Fp), (∀ j, l[j]? = ops[k + j]?) → (∀ j, fps[j]? = F[k + j]?) → k + l.length = ops.size → opsA (stepA P eqs orc call nt ops) l s = some (s', fps) → lexA ops k l fps = true → G s' →
      anyS (stepA P eqs orc call nt ops) ops (fun j => F.getD j .no) G l.length (firstK ops.size k) s
  | [], k, s, s', fps, hl, hf, hk, h, hx, hg => by
    simp [opsA] at h
    obtain ⟨rfl, _⟩ := h
    refine ⟨?_, hg⟩
    cases hr : Region.ready .any ops (firstK ops.size k) with
    | nil => rfl
    | cons j js =>
      have hj : j ∈ Region.ready .any ops (firstK ops.size k) := by rw [hr]; simp
      obtain ⟨h1, o, ho, _⟩ := mem_ready.1 hj
      have hjl := (Array.getElem?_eq_some_iff.1 ho).1
      rw [firstK_get, if_pos hjl] at h1
      simp at h1 hk
      omega
  | o :: l, k, s, s', fps, hl, hf, hk, h, hx, hg => by
    have hlen := opsA_length h
    simp only [opsA, Option.bind_eq_some_iff] at h
    obtain ⟨⟨s1, fp⟩, h1, ⟨s2, fps'⟩, h2, h⟩ := h
    injection h with h
    injection h with e1 e2
    subst e1 e2
    simp only [List.length_cons] at hk hlen
    have hklt : k < ops.size := by omega
    have hko : ops[k]? = some o := by have := hl 0; simpa using this.symm
    have hkf : F[k]? = some fp := by have := hf 0; simpa using this.symm
    have hft : (F.getD k .no) = fp := by simp [List.getD, hkf]
    simp only [lexA, Bool.and_eq_true] at hx
    obtain ⟨⟨hx1, hx2⟩, hx3⟩ := hx
    have ih := anyS_lex hL hG hF l (k + 1) s1 s2 fps' (fun j => by have := hl (j + 1); simpa [Nat.add_assoc, Nat.add_comm 1 j] using this) (fun j => by have := hf (j + 1); simpa [Nat.add_assoc, Nat.add_comm 1 j] using this) (by omega) h2 hx3 hg
    rw [← firstK_set _ _ hklt] at ih
    refine anyS_first hL hG hko l.length (firstK ops.size k) s s1 (by rw [hft]; exact h1) ?_ ?_ ih
    · refine mem_ready.2 ⟨by rw [firstK_get, if_pos hklt]; simp, o, hko, fun e he hb => ?_⟩
      have := Array.all_eq_true_iff_forall_mem.1 hx1 e he
      simp only [hb, Bool.not_true, Bool.false_or, decide_eq_true_eq] at this
      rw [firstK_get, if_pos (by omega)]
      simpa using this
    · intro j oj hoj hjk hun hno
      have hjl := (Array.getElem?_eq_some_iff.1 hoj).1
      rw [firstK_get, if_pos hjl] at hun
      have hjk' : k < j := by simp at hun; omega
      have e1 : l[j - (k + 1)]? = some oj := by
        have := hl (j - (k + 1) + 1)
        rw [List.getElem?_cons_succ] at this
        rw [this, ← hoj]
        congr 1
        omega
      have hfl : j - (k + 1) < fps'.length := by
        have := getElem?_lt e1
        have := opsA_length h2
        omega
      have e2 : fps'[j - (k + 1)]? = some fps'[j - (k + 1)] := by simp
      have e3 : F.getD j .no = fps'[j - (k + 1)] := by
        have := hf (j - (k + 1) + 1)
        rw [List.getElem?_cons_succ, e2, show k + (j - (k + 1) + 1) = j by omega] at this
        simp [List.getD, ← this]
      rw [hft, e3]
      exact freeA_spec hx2 _ oj _ e1 e2 hno
end
section
variable {P : Program} {eqs : TypeId → Option (List SK)} {orc : Nat → Option Orc} {call : Caller} {nt : Nat} {w0 : World} {g0 : Gs} {bl0 bg0 : Bl}
theorem mkM_lo {w : World} {l l' : Ls} {g : Gs} {bl bg : Bl} (h : ∀ d, lo l d = lo l' d) : mkM w l g bl bg = mkM w l' g bl bg := by
  simp only [mkM, h]
theorem SR.lo {w : World} {l l' : Ls} {g : Gs} {bl bg : Bl} (h : ∀ d, lo l d = lo l' d) (hs : SR w l g bl bg) : SR w l' g bl bg := by
  have hm := mkM_lo (w := w) (g := g) (bl := bl) (bg := bg) h
  exact ⟨fun d v o hd => hm ▸ hs.ol d v o (by rw [h]; exact hd), fun r o hr => hm ▸ hs.og r o hr, fun d v r hd => hs.fw d v r (by rw [h]; exact hd), fun d e v o v' o' hd he hb => hs.dll d e v o v' o' (by rw [h]; exact hd) (by rw [h]; exact he) hb, hs.dgg,
    fun d v o r hd hr => hs.dlg d v o r (by rw [h]; exact hd) hr, hs.jn, fun d v o p hd => hs.jl d v o p (by rw [h]; exact hd), hs.jg⟩
theorem CR.seq {s t : St} {a : Act} {w : World} {bl bg : Bl} (h : Seq s t) (hc : CR nt w0 g0 bl0 bg0 s a w bl bg) : CR nt w0 g0 bl0 bg0 t a w bl bg := by
  obtain ⟨se, sl, sg, sw⟩ := s
  obtain ⟨te, tl, tg, tw⟩ := t
  obtain ⟨h1, h2, h3, h4⟩ := h
  simp only at h1 h2 h3 h4
  subst h1 h3
  have hm := mkM_lo (w := w) (g := sg) (bl := bl) (bg := bg) h2
  obtain ⟨st, ln, sz, vl, df⟩ := hc
  simp only at st vl
  refine ⟨⟨st.sr.lo h2, hm ▸ st.le, st.same, fun r o hr => ?_, fun b ⟨d, v, o, hd, hb⟩ => st.l1 b ⟨d, v, o, by rw [h2]; exact hd, hb⟩, st.g1, st.size, st.os, st.tape, st.output, st.J, st.fz⟩, ln, sz, fun t v hv => hm ▸ vl t v hv, df⟩
  obtain ⟨o', q1, q2, q3, q4⟩ := st.gs r o hr
  exact ⟨o', q1, q2, q3, fun hn => q4 fun hw => hn ((h4 r).1 hw)⟩
theorem anyS_wp (hE : Env P eqs orc call) {ops : Array Oper} {ft : Nat → Fp} {G : St → Prop} {Q : Exit → Act → World → Prop} (hQ : ∀ s a w bl bg, G s → CR nt w0 g0 bl0 bg0 s a w bl bg → Q .normal a w) :
    ∀ (n : Nat) (listed : Array Bool) (s : St) (a : Act) (w : World) (bl bg : Bl), anyS (stepA P eqs orc call nt ops) ops ft G n listed s → CR nt w0 g0 bl0 bg0 s a w bl bg → wpAny P .any ops Q n listed a w
  | 0, listed, s, a, w, bl, bg, h, hc => ⟨h.1, hQ s a w bl bg h.2 hc⟩
  | n + 1, listed, s, a, w, bl, bg, h, hc => ⟨fun hr => hQ s a w bl bg (h.1 hr) hc, fun i hi => by
      obtain ⟨o, s', h1, h2, h3⟩ := h.2 i hi
      exact stepA_wp hE h1 h2 hc fun a' w' bl' bg' hc' => anyS_wp hE hQ n _ s' a' w' bl' bg' h3 hc'⟩
theorem opsA_wp (hE : Env P eqs orc call) {ops : Array Oper} {Q : Exit → Act → World → Prop} {s' : St} (hQ : ∀ a w bl bg, CR nt w0 g0 bl0 bg0 s' a w bl bg → Q .normal a w) :
    ∀ (l : List Oper) (k : Nat) (s : St) (fps : List Fp), (∀ j, l[j]? = ops[k + j]?) → opsA (stepA P eqs orc call nt ops) l s = some (s', fps) → ∀ (a : Act) (w : World) (bl bg : Bl), CR nt w0 g0 bl0 bg0 s a w bl bg → wpOps P ops Q (List.range' k l.length) a w
  | [], k, s, fps, hl, h, a, w, bl, bg, hc => by
    simp [opsA] at h
    rw [h.1] at hc
    exact hQ a w bl bg hc
  | o :: l, k, s, fps, hl, h, a, w, bl, bg, hc => by
    simp only [opsA, Option.bind_eq_some_iff] at h
    obtain ⟨⟨s1, fp⟩, h1, ⟨s2, fps'⟩, h2, h⟩ := h
    injection h with h
    injection h with e1 e2
    subst e1 e2
    have hko : ops[k]? = some o := by have := hl 0; simpa using this.symm
    rw [List.length_cons, List.range'_succ, wpOps_cons]
    exact stepA_wp hE hko h1 hc fun a' w' bl' bg' hc' => opsA_wp hE hQ l (k + 1) s1 fps' (fun j => by have := hl (j + 1); simpa [Nat.add_assoc, Nat.add_comm 1 j] using this) h2 a' w' bl' bg' hc'
/-- A region. -/
theorem regionA_wp (hE : Env P eqs orc call) (hL : ∀ o e, Loc (fun l g => aoper P eqs orc call o (opd e) l g)) (hm : P.follows .mixedOrders = true) {id : Nat} {ops : Array Oper} {draw : Bool} {s s' : St} {x : Ex} (h : regionA (stepA P eqs orc call nt ops) ops draw s = some (x, s'))
    {a : Act} {w : World} {bl bg : Bl} (hc : CR nt w0 g0 bl0 bg0 s a w bl bg) {Q : Exit → Act → World → Prop} (hQ : ∀ a w bl bg, CR nt w0 g0 bl0 bg0 s' a w bl bg → Q .normal a w) : x = .norm ∧ (Code.region id ops draw).wp P Q a w := by
  unfold regionA at h
  simp only [Option.bind_eq_some_iff] at h
  obtain ⟨⟨s1, fps⟩, h1, h⟩ := h
  split at h
  · rename_i hd
    injection h with h
    injection h with e1 e2
    subst e1 e2
    refine ⟨rfl, ?_⟩
    cases draw with
    | false =>
      refine wp_region ?_
      have := opsA_wp hE hQ ops.toList 0 s fps (fun j => by simp) h1 a w bl bg hc
      rwa [Array.length_toList, ← List.range_eq_range'] at this
    | true =>
      have hlex : lexA ops 0 ops.toList fps = true := by simpa using hd
      refine wp_region_any hm ?_
      have hc' : CR nt w0 g0 bl0 bg0 s a w.drew bl bg := by
        obtain ⟨st, ln, sz, vl, df⟩ := hc
        have hk := Stp.drew st.sr
        exact ⟨by simpa using st.trans hk, ln, sz, fun t v hv => (vl t v hv).mono hk.le, df⟩
      have hlen := opsA_length h1
      have := anyS_lex (nt := nt) hL (G := fun t => Seq t s1) (fun s t hst hg => hst.symm.trans hg) (F := fps) (by rw [hlen]; simp) ops.toList 0 s s1 fps (fun j => by simp) (fun j => by simp) (by simp) h1 hlex (Seq.refl _)
      have e0 : firstK ops.size 0 = Array.replicate ops.size false := by
        apply Array.ext
        · simp [firstK]
        · intro i h1 h2; simp [firstK]
      rw [Array.length_toList, e0] at this
      exact anyS_wp hE (fun s a w bl bg hg hcc => hQ a w bl bg (hcc.seq hg)) ops.size _ s a w.drew bl bg this hc'
  · cases h
end
end Go.AE
