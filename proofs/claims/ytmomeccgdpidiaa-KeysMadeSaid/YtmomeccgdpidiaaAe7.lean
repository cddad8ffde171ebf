import Derived.Test.YtmomeccgdpidiaaAe6
/-! Values reckoned out of values, continued. -/
namespace Go.AE
open Go.RowKit
section
variable {P : Program} {w : World} {m : Mp}

theorem add_plain (b o n : Nat) : (⟨b, o, none⟩ : Addr).add n = ⟨b, o + n, none⟩ := by unfold Addr.add; split <;> simp_all
theorem lies_of {w : World} {m : Mp} {cs : List AV} {b p : Nat} {cv : Nat → Value} (h1 : ∀ (j : Nat) (c : AV), cs[j]? = some c → w.cell? ⟨b, p + j, none⟩ = some (cv j)) (h2 : ∀ (j : Nat) (c : AV), cs[j]? = some c → VR w m c (cv j)) : lies w m cs b p :=
  fun j c hc => ⟨cv j, h1 j c hc, h2 j c hc⟩
theorem natOf_bound {x : AV} {v : Value} {n y : Nat} {c : BoundsCode} (h : natOf x = some n) (hr : VR w m x v) (hy : n ≤ y) : (Instr.sliceBound v y c).run P w = .ok n w := by
  obtain ⟨k, rfl⟩ := natOf_VR h hr
  simp [Instr.sliceBound, asIntOf, hy]
theorem boundA_spec {y n : Nat} {x : Option AV} {d : Nat} (h : boundA y x d = some n) : (x = none ∧ n = d) ∨ ∃ v, x = some v ∧ natOf v = some n ∧ n ≤ y := by
  cases x with
  | none => simp [boundA] at h; exact .inl ⟨rfl, h.symm⟩
  | some v =>
    simp only [boundA, Option.bind_eq_some_iff] at h
    obtain ⟨k, hk, h⟩ := h
    split at h
    · injection h with h; subst h; rename_i hle; exact .inr ⟨v, rfl, hk, hle⟩
    · cases h
/-- An option of a value. -/
def OR (w : World) (m : Mp) (x : Option AV) (v : Option Value) : Prop := match x, v with | none, none => True | some a, some b => VR w m a b | _, _ => False
theorem bounds_run {isS : Bool} {len cap : Nat} {lo' hi' : Option AV} {lv hv : Option Value} (hl : OR w m lo' lv) (hh : OR w m hi' hv) {h a y : Nat} (hy : y ≤ cap) (h1 : boundA y hi' len = some h) (h2 : boundA h lo' 0 = some a) :
    (Instr.sliceBounds isS len cap lv hv none).run P w = .ok (a, h, cap) w := by
  have e1 : ∀ c, (match hv with | some v => Instr.sliceBound v cap c | none => (pure len : Sem Nat)).run P w = .ok h w := fun c => by
    rcases boundA_spec h1 with ⟨rfl, rfl⟩ | ⟨v, rfl, hn, hle⟩
    · cases hv with
      | none => rfl
      | some _ => cases hh
    · cases hv with
      | none => cases hh
      | some u => exact natOf_bound hn hh (by omega)
  have e2 : ∀ c, (match lv with | some v => Instr.sliceBound v h c | none => (pure 0 : Sem Nat)).run P w = .ok a w := fun c => by
    rcases boundA_spec h2 with ⟨rfl, rfl⟩ | ⟨v, rfl, hn, hle⟩
    · cases lv with
      | none => rfl
      | some _ => cases hl
    · cases lv with
      | none => cases hl
      | some u => exact natOf_bound hn hl hle
  unfold Instr.sliceBounds
  cases hv <;> cases lv <;> simp_all
theorem szP_size {t : TypeId} {s : Nat} (h : szP P t = some s) : ∃ i, P.info? t = some i ∧ i.size = s := by
  unfold szP at h
  cases hi : P.info? t with
  | none => simp [hi] at h
  | some i =>
    simp [hi] at h
    exact ⟨i, rfl, h⟩
end

section
variable {P : Program} {w : World} {l : Ls} {g : Gs} {bl bg : Bl}
theorem sliceA_run (hsr : SR w l g bl bg) {t : TypeId} {x v : AV} {lo' hi' : Option AV} {fp : Fp} (h : sliceA P t x lo' hi' l g = some (v, fp)) {u : Value} {lv hv : Option Value} (hx : VR w (mkM w l g bl bg) x u) (hl : OR w (mkM w l g bl bg) lo' lv) (hh : OR w (mkM w l g bl bg) hi' hv) :
    ∃ u', (Instr.sliceAt t u lv hv none).run P w = .ok u' w ∧ VR w (mkM w l g bl bg) v u' := by
  unfold sliceA at h
  split at h
  · rename_i s hu
    simp only [Option.bind_eq_some_iff] at h
    obtain ⟨hi, h1, a, h2, h⟩ := h
    injection h with h
    injection h with h h'
    subst h
    obtain ⟨z, rfl, hz⟩ := hx.strI
    have hzl : z.size = s.length := by rw [← hz]; exact Array.length_toList.symm
    have := bounds_run (P := P) (isS := false) hl hh (len := z.size) (cap := z.size) (y := s.length) (by omega) (by rw [hzl]; exact h1) h2
    refine ⟨.string (z.extract a hi), ?_, ?_⟩
    · simp [Instr.sliceAt, Instr.slice, run_underlying hu, this]
    · have e : (z.extract a hi).data.toList = (s.drop a).take (hi - a) := by
        rw [← hz]
        simp [ByteArray.data_extract, List.extract_eq_take_drop]
      rw [← e]
      exact .str _
  · rename_i e hu
    simp only [Option.bind_eq_some_iff] at h
    obtain ⟨s, hs, hi, h1, a, h2, h⟩ := h
    injection h with h
    injection h with h h'
    subst h
    cases hx
    have := bounds_run (P := P) (isS := true) hl hh (len := 0) (cap := 0) (y := 0) (by omega) h1 h2
    have e0 : hi = 0 := by
      rcases boundA_spec h1 with ⟨_, e⟩ | ⟨_, _, _, e⟩ <;> omega
    have e1 : a = 0 := by
      rcases boundA_spec h2 with ⟨_, e⟩ | ⟨_, _, _, e⟩ <;> omega
    subst e0 e1
    refine ⟨_, ?_, .nils⟩
    simp [Instr.sliceAt, Instr.slice, run_underlying hu, this, run_szP hs]
  · rename_i e k ex xs hu
    split at h
    · rename_i hs
      simp only [Option.bind_eq_some_iff] at h
      obtain ⟨hi, h1, a, h2, h⟩ := h
      injection h with h
      injection h with h h'
      subst h
      cases hx with
      | sl _ _ _ b o cap cv c1 c2 c3 c4 c5 c6 =>
      have hb := bounds_run (P := P) (isS := true) hl hh (len := xs.length) (cap := cap) (y := xs.length) c1 h1 h2
      have e0 : hi ≤ xs.length := by
        rcases boundA_spec h1 with ⟨_, e⟩ | ⟨_, _, _, e⟩ <;> omega
      have e1 : a ≤ hi := by
        rcases boundA_spec h2 with ⟨_, e⟩ | ⟨_, _, _, e⟩ <;> omega
      refine ⟨.slice (some ⟨b, if cap = a then o else o + a * k, none⟩) (hi - a) (cap - a), ?_, ?_⟩
      · simp only [Instr.sliceAt, Instr.slice, run_underlying hu, hb, run_szP hs, Sem.run_bind, Result.andThen_ok, Sem.run_pure]
        by_cases hca : cap = a
        · simp [hca]
        · simp [hca, add_plain]
      · have hlen : ((xs.drop a).take (hi - a)).length = hi - a := by simp; omega
        have hget : ∀ (i : Nat) (x : AV), ((xs.drop a).take (hi - a))[i]? = some x → xs[a + i]? = some x ∧ i < hi - a := fun i x hx => by
          have := getElem?_lt hx
          rw [hlen] at this
          rw [List.getElem?_take_of_lt this, List.getElem?_drop] at hx
          exact ⟨hx, this⟩
        have hoff : ∀ i j, i < hi - a → (if cap = a then o else o + a * k) + (i * k + j) = o + ((a + i) * k + j) := fun i j hi' => by
          rw [if_neg (by omega), Nat.add_mul]; omega
        conv => rhs; rw [← hlen]
        refine .sl k _ _ b _ (cap - a) (fun i j => cv (a + i) j) (by omega) (fun hex => ?_) (fun x hx => c3 x (List.mem_of_mem_drop (List.mem_of_mem_take hx))) (fun i j x c hx hc => ?_) (fun i j x c hx hc => ?_) (fun i j x c hx hc => c6 _ j x c (hget i x hx).1 hc)
        · simp only [Bool.and_eq_true, beq_iff_eq] at hex
          rw [hlen, c2 hex.1]; omega
        · rw [hoff i j (hget i x hx).2]; exact c4 _ j x c (hget i x hx).1 hc
        · rw [hoff i j (hget i x hx).2]; exact c5 _ j x c (hget i x hx).1 hc
    · cases h
  · rename_i e d ver i n hu
    split at h
    · rename_i v' o hlo
      split at h
      · rename_i hc
        obtain ⟨rfl, hs⟩ := hc
        simp only [Option.bind_eq_some_iff] at h
        obtain ⟨hi, h1, a, h2, h⟩ := h
        cases hx with
        | ls _ _ _ _ ad cap c0 c1 c2 =>
        have hb := bounds_run (P := P) (isS := true) hl hh (len := n) (cap := cap) (y := n) c0 h1 h2
        have e0 : hi ≤ n := by
          rcases boundA_spec h1 with ⟨_, e⟩ | ⟨_, _, _, e⟩ <;> omega
        have e1 : a ≤ hi := by
          rcases boundA_spec h2 with ⟨_, e⟩ | ⟨_, _, _, e⟩ <;> omega
        obtain ⟨rfl, cs, e', hcs, hsz⟩ := c2 (by simp [mkM, hlo, LO.ver]) (bl d) o.k (by simp [mkM, hlo])
        have hrun : (Instr.sliceAt t (.slice (some ⟨bl d, i * o.k, none⟩) n cap) lv hv none).run P w = .ok (.slice (some ⟨bl d, if cap = a then i * o.k else i * o.k + a * o.k, none⟩) (hi - a) (cap - a)) w := by
          simp only [Instr.sliceAt, Instr.slice, run_underlying hu, hb, run_szP hs, Sem.run_bind, Result.andThen_ok, Sem.run_pure]
          by_cases hca : cap = a
          · simp [hca]
          · simp [hca, add_plain]
        split at h
        · injection h with h
          injection h with h h'
          subst h
          rename_i hah
          refine ⟨_, hrun, ?_⟩
          rw [show hi - a = ([] : List AV).length by simp; omega]
          exact .sl o.k false [] (bl d) _ (cap - a) (fun _ _ => .nilFunc) (by simp) (by simp) (by simp) (by simp) (by simp) (by simp)
        · injection h with h
          injection h with h h'
          subst h
          rename_i hah
          refine ⟨_, hrun, ?_⟩
          rw [if_neg (by omega)]
          refine .ls d v' (i + a) (hi - a) _ (cap - a) (by omega) c1 fun he b k hbk => ?_
          simp only [mkM, hlo, Option.some.injEq, Prod.mk.injEq] at hbk
          obtain ⟨rfl, rfl⟩ := hbk
          refine ⟨by rw [Nat.add_mul], cs, e', hcs, ?_⟩
          rw [← Nat.add_mul] at hsz ⊢
          rw [show i + a + (cap - a) = i + cap by omega]
          exact hsz
      · cases h
    · cases h
  · rename_i e r i n hu
    simp only [Option.bind_eq_some_iff] at h
    obtain ⟨o, ho, h⟩ := h
    split at h
    · rename_i hc
      obtain ⟨harr, hs⟩ := hc
      simp only [Option.bind_eq_some_iff] at h
      obtain ⟨hi, h1, a, h2, h⟩ := h
      cases hx with
      | gs _ _ _ k xs b0 b of cap cv g1 g2 g3 g4 g5 g6 g7 =>
      have hb := bounds_run (P := P) (isS := true) hl hh (len := n) (cap := cap) (y := n) g3 h1 h2
      have e0 : hi ≤ n := by
        rcases boundA_spec h1 with ⟨_, e⟩ | ⟨_, _, _, e⟩ <;> omega
      have e1 : a ≤ hi := by
        rcases boundA_spec h2 with ⟨_, e⟩ | ⟨_, _, _, e⟩ <;> omega
      have hga := g1
      simp only [mkM, ho, harr, if_true, Option.some.injEq, Prod.mk.injEq] at hga
      obtain ⟨hk, hxs, hb0⟩ := hga
      rw [hk] at hs
      have hrun : (Instr.sliceAt t (.slice (some ⟨b, of, none⟩) n cap) lv hv none).run P w = .ok (.slice (some ⟨b, if cap = a then of else of + a * k, none⟩) (hi - a) (cap - a)) w := by
        simp only [Instr.sliceAt, Instr.slice, run_underlying hu, hb, run_szP hs, Sem.run_bind, Result.andThen_ok, Sem.run_pure]
        by_cases hca : cap = a
        · simp [hca]
        · simp [hca, add_plain]
      split at h
      · injection h with h
        injection h with h h'
        subst h
        rename_i hah
        refine ⟨_, hrun, ?_⟩
        rw [show hi - a = ([] : List AV).length by simp; omega]
        exact .sl o.k false [] b _ (cap - a) (fun _ _ => .nilFunc) (by simp) (by simp) (by simp) (by simp) (by simp) (by simp)
      · injection h with h
        injection h with h h'
        subst h
        rename_i hah
        refine ⟨_, hrun, ?_⟩
        rw [if_neg (by omega)]
        have hoff : ∀ p j, of + a * k + (p * k + j) = of + ((a + p) * k + j) := fun p j => by rw [Nat.add_mul]; omega
        refine .gs r (i + a) (hi - a) k xs b0 b _ (cap - a) (fun p j => cv (a + p) j) g1 (by omega) (by omega) (fun p j x c hp hx hc => ?_) (fun p j x c hp hx hc => ?_) (fun p j x c hp hx hc => ?_) fun hi0 hn => ?_
        · rw [hoff]; exact g4 (a + p) j x c (by omega) (by rw [← hx]; congr 1; omega) hc
        · rw [hoff]; exact g5 (a + p) j x c (by omega) (by rw [← hx]; congr 1; omega) hc
        · exact g6 (a + p) j x c (by omega) (by rw [← hx]; congr 1; omega) hc
        · have ha0 : a = 0 := by omega
          have hi0' : i = 0 := by omega
          subst ha0 hi0'
          obtain ⟨q1, q2, q3⟩ := g7 rfl (by omega)
          refine ⟨q1, by omega, ?_⟩
          simpa using q3
    · cases h
  · cases h

/-! ### Addresses -/
theorem movA_spec {w : World} {m : Mp} {a b : AV} {n : Nat} (h : movA a n = some b) {u : Value} (hr : VR w m a u) : ∃ ad : Addr, u = .pointer (some ad) ∧ VR w m b (.pointer (some (ad.add n))) := by
  cases a <;> simp only [movA] at h <;> try cases h
  case lp d ver i j =>
    cases hr with
    | lp _ _ _ _ ad h1 h2 =>
      refine ⟨ad, rfl, .lp d ver i (j + n) _ h1 fun e b k hb => ?_⟩
      rw [h2 e b k hb, add_plain, Nat.add_assoc]
  case gp r i j =>
    cases hr with
    | gp _ _ _ b k hb =>
      refine ⟨_, rfl, ?_⟩
      rw [add_plain, Nat.add_assoc]
      exact .gp r i (j + n) b k hb
  case rp x j =>
    cases hr with
    | rp _ _ b o cv h1 h2 h3 h4 =>
      refine ⟨_, rfl, ?_⟩
      rw [add_plain, Nat.add_assoc]
      exact .rp x (j + n) b o cv h1 h2 h3 h4
theorem fieldAddrA_run {m : Mp} {t : TypeId} {a v : AV} {f : Nat} (h : fieldAddrA P t a f = some v) {u : Value} (hr : VR w m a u) : ∃ u', (Instr.fieldAt t u f).run P w = .ok u' w ∧ VR w m v u' := by
  unfold fieldAddrA at h
  split at h
  · rename_i fs hu
    simp only [Option.bind_eq_some_iff] at h
    obtain ⟨fd, hfd, s, hs, h⟩ := h
    split at h
    · cases h
    · rename_i h0
      obtain ⟨ad, rfl, hv⟩ := movA_spec h hr
      refine ⟨_, ?_, hv⟩
      simp [Instr.fieldAt, run_underlying hu, hfd, Instr.sureAddr, fieldPlace, run_szP hs, h0]
  · cases h
theorem indexAddrA_run (hsr : SR w l g bl bg) {t : TypeId} {x i v : AV} {fp : Fp} (h : indexAddrA P t x i l g = some (v, fp)) {u ui : Value} (hx : VR w (mkM w l g bl bg) x u) (hi : VR w (mkM w l g bl bg) i ui) :
    ∃ u', (Instr.indexAt t u ui).run P w = .ok u' w ∧ VR w (mkM w l g bl bg) v u' := by
  unfold indexAddrA at h
  simp only [Option.bind_eq_some_iff] at h
  obtain ⟨n, hn, h⟩ := h
  obtain ⟨k, rfl⟩ := natOf_VR hn hi
  split at h
  · rename_i len e _ hu
    split at h
    · rename_i hlt
      simp only [Option.bind_eq_some_iff] at h
      obtain ⟨s, hs, a, ha, h⟩ := h
      injection h with h
      injection h with h h'
      subst h
      obtain ⟨ad, rfl, hv⟩ := movA_spec ha hx
      refine ⟨_, ?_, hv⟩
      simp [Instr.indexAt, asIntOf, run_underlying hu, Instr.sureAddr, run_szP hs, hlt]
    · cases h
  · rename_i e d ver o mm hu
    split at h
    · rename_i v' ob hlo
      split at h
      · rename_i hc
        obtain ⟨rfl, _, hnm, hs⟩ := hc
        injection h with h
        injection h with h h'
        subst h
        cases hx with
        | ls _ _ _ _ ad cap c0 c1 c2 =>
        obtain ⟨rfl, cs, e', hcs, hsz⟩ := c2 (by simp [mkM, hlo, LO.ver]) (bl d) ob.k (by simp [mkM, hlo])
        refine ⟨.pointer (some ⟨bl d, o * ob.k + n * ob.k, none⟩), ?_, .lp d v' (o + n) 0 _ c1 fun _ b k hbk => ?_⟩
        · simp [Instr.indexAt, asIntOf, run_underlying hu, run_szP hs, hnm, add_plain]
        · simp only [mkM, hlo, Option.some.injEq, Prod.mk.injEq] at hbk
          obtain ⟨rfl, rfl⟩ := hbk
          rw [Nat.add_mul, Nat.add_zero]
      · cases h
    · cases h
  · rename_i e k' ex xs hu
    split at h
    · rename_i hs
      simp only [Option.bind_eq_some_iff] at h
      obtain ⟨y, hy, h⟩ := h
      injection h with h
      injection h with h h'
      subst h
      cases hx with
      | sl _ _ _ b o cap cv c1 c2 c3 c4 c5 c6 =>
      have hlt := getElem?_lt hy
      refine ⟨.pointer (some ⟨b, o + n * k' + 0, none⟩), ?_, .rp y 0 b (o + n * k') (fun j => cv n j) (c3 y (List.mem_of_getElem? hy)).1 (fun p c hc => ?_) (fun p c hc => ?_) (fun p c hc => c6 n p y c hy hc)⟩
      · simp [Instr.indexAt, asIntOf, run_underlying hu, run_szP hs, hlt, add_plain]
      · rw [Nat.add_assoc]; exact c4 n p y c hy hc
      · rw [Nat.add_assoc]; exact c5 n p y c hy hc
    · cases h
  · rename_i e r o mm hu
    simp only [Option.bind_eq_some_iff] at h
    obtain ⟨ob, hob, h⟩ := h
    split at h
    · rename_i hc
      obtain ⟨harr, hnm, hs⟩ := hc
      simp only [Option.bind_eq_some_iff] at h
      obtain ⟨y, hy, h⟩ := h
      injection h with h
      injection h with h h'
      subst h
      cases hx with
      | gs _ _ _ k xs b0 b of cap cv g1 g2 g3 g4 g5 g6 g7 =>
      have hga := g1
      simp only [mkM, hob, harr, if_true, Option.some.injEq, Prod.mk.injEq] at hga
      obtain ⟨rfl, rfl, _⟩ := hga
      have hgood : y.good = true := (hsr.og r ob hob).1.ok ((hsr.og r ob hob).2.ok harr) y (List.mem_of_getElem? hy)
      refine ⟨.pointer (some ⟨b, of + n * ob.k + 0, none⟩), ?_, .rp y 0 b (of + n * ob.k) (fun j => cv n j) hgood (fun p c hc => ?_) (fun p c hc => ?_) (fun p c hc => g6 n p y c hnm hy hc)⟩
      · simp [Instr.indexAt, asIntOf, run_underlying hu, run_szP hs, hnm, add_plain]
      · rw [Nat.add_assoc]; exact g4 n p y c hnm hy hc
      · rw [Nat.add_assoc]; exact g5 n p y c hnm hy hc
    · cases h
  · cases h
end
section
variable {P : Program} {w : World} {m : Mp}
theorem indexA_run {t : TypeId} {x i v : AV} (h : indexA P t x i = some v) {u ui : Value} (hx : VR w m x u) (hi : VR w m i ui) : ∃ u', (Instr.index t u ui).run P w = .ok u' w ∧ VR w m v u' := by
  unfold indexA at h
  simp only [Option.bind_eq_some_iff] at h
  obtain ⟨n, hn, h⟩ := h
  obtain ⟨k, rfl⟩ := natOf_VR hn hi
  split at h
  · rename_i len e cs hu
    split at h
    · rename_i hlt
      simp only [Option.bind_eq_some_iff] at h
      obtain ⟨s, hs, ag, hag, h⟩ := h
      obtain ⟨vs, rfl, h1, h2, h3⟩ := hx.aggI
      obtain ⟨u', hu', hv⟩ := partA_run (P := P) (w := w) (m := m) h1 h2 h3 hs hag h
      refine ⟨u', ?_, hv⟩
      simp [Instr.index, asIntOf, run_underlying hu, run_szP hs, hlt, hu']
    · cases h
  · rename_i s hu
    simp only [Option.bind_eq_some_iff] at h
    obtain ⟨b, hb, h⟩ := h
    injection h with h
    subst h
    obtain ⟨z, rfl, hz⟩ := hx.strI
    have hzb : z[n]? = some b := by
      have hlt := getElem?_lt hb
      have hzl : z.size = s.length := by rw [← hz]; exact Array.length_toList.symm
      rw [getElem?_pos z n (by omega)]
      rw [← hz] at hb
      simp only [Array.getElem?_toList] at hb
      have h2 : n < z.data.size := by have : z.data.size = z.size := rfl; omega
      rw [Array.getElem?_eq_getElem h2] at hb
      exact hb
    refine ⟨.int .u8 b.toNat, ?_, .int _ _⟩
    simp [Instr.index, asIntOf, run_underlying hu, hzb]
  · cases h
theorem fieldA_run {t : TypeId} {x v : AV} {f : Nat} (h : fieldA P t x f = some v) {u : Value} (hx : VR w m x u) : ∃ u', (Instr.field t u f).run P w = .ok u' w ∧ VR w m v u' := by
  unfold fieldA at h
  split at h
  · rename_i fs cs hu
    simp only [Option.bind_eq_some_iff] at h
    obtain ⟨fd, hfd, s, hs, ag, hag, h⟩ := h
    obtain ⟨vs, rfl, h1, h2, h3⟩ := hx.aggI
    obtain ⟨u', hu', hv⟩ := partA_run (P := P) (w := w) (m := m) h1 h2 h3 hs hag h
    refine ⟨u', ?_, hv⟩
    simp [Instr.field, run_underlying hu, hfd, asAgg, hu']
  · cases h
theorem lenA_run {t : TypeId} {x v : AV} (h : lenA P t x = some v) {u : Value} (hx : VR w m x u) (tys : Array TypeId) (ty : TypeId) (args : Array Value) (h0 : tys[0]? = some t) (h1 : args[0]? = some u) : ∃ u', (Builtin.len_ tys ty args).run P w = .ok u' w ∧ VR w m v u' := by
  unfold lenA at h
  split at h <;> rename_i hu <;> first | (cases h; done) | (injection h with h; subst h)
  · obtain ⟨z, rfl, hz⟩ := hx.strI
    refine ⟨.int .i64 z.size, by simp [Builtin.len_, h0, h1, run_underlying hu, goInt], ?_⟩
    rw [← hz, show z.data.toList.length = z.size from Array.length_toList]
    exact .int _ _
  · exact ⟨_, by simp [Builtin.len_, h0, h1, run_underlying hu, goInt], .int _ _⟩
  · cases hx; exact ⟨_, by simp [Builtin.len_, h0, h1, run_underlying hu, goInt], .int _ _⟩
  · cases hx; exact ⟨_, by simp [Builtin.len_, h0, h1, run_underlying hu, goInt], .int _ _⟩
  · cases hx; exact ⟨_, by simp [Builtin.len_, h0, h1, run_underlying hu, goInt], .int _ _⟩
  · cases hx; exact ⟨_, by simp [Builtin.len_, h0, h1, run_underlying hu, goInt], .int _ _⟩
theorem max_run : ∀ (l : List AV) (v r : AV), minmaxA true v l = some r → ∀ (us : List Value) (u : Value), us.length = l.length → VR w m v u → (∀ (i : Nat) (a : AV) (b : Value), l[i]? = some a → us[i]? = some b → VR w m a b) → ∃ u', (us.foldlM Builtin.max2 u).run P w = .ok u' w ∧ VR w m r u'
  | [], v, r, h, [], u, _, hr, _ => by
    simp [minmaxA] at h
    subst h
    exact ⟨u, rfl, hr⟩
  | a :: l, v, r, h, b :: us, u, hl, hr, hs => by
    cases v <;> cases a <;> simp only [minmaxA] at h <;> try cases h
    rename_i k x k' y
    split at h
    · rename_i hk
      subst hk
      have hb := hs 0 (.int k y) b rfl rfl
      have e1 := hr.intI
      have e2 := hb.intI
      subst e1 e2
      simp only [if_true] at h
      obtain ⟨u', h1, h2⟩ := max_run l (.int k (if y > x then y else x)) r h us (.int k (if y > x then y else x)) (by simpa using hl) (.int _ _) fun i p q hp hq => hs (i + 1) p q (by simpa using hp) (by simpa using hq)
      exact ⟨u', by simp only [List.foldlM_cons, Builtin.max2, Sem.run_bind, Sem.run_pure, Result.andThen_ok]; exact h1, h2⟩
    · cases h
  | [], _, _, _, _ :: _, _, hl, _, _ => by simp at hl
  | _ :: _, _, _, _, [], _, hl, _, _ => by simp at hl
theorem min_run : ∀ (l : List AV) (v r : AV), minmaxA false v l = some r → ∀ (us : List Value) (u : Value), us.length = l.length → VR w m v u → (∀ (i : Nat) (a : AV) (b : Value), l[i]? = some a → us[i]? = some b → VR w m a b) → ∃ u', (us.foldlM Builtin.min2 u).run P w = .ok u' w ∧ VR w m r u'
  | [], v, r, h, [], u, _, hr, _ => by
    simp [minmaxA] at h
    subst h
    exact ⟨u, rfl, hr⟩
  | a :: l, v, r, h, b :: us, u, hl, hr, hs => by
    cases v <;> cases a <;> simp only [minmaxA] at h <;> try cases h
    rename_i k x k' y
    split at h
    · rename_i hk
      subst hk
      have hb := hs 0 (.int k y) b rfl rfl
      have e1 := hr.intI
      have e2 := hb.intI
      subst e1 e2
      simp only [Bool.false_eq_true, if_false] at h
      obtain ⟨u', h1, h2⟩ := min_run l (.int k (if y < x then y else x)) r h us (.int k (if y < x then y else x)) (by simpa using hl) (.int _ _) fun i p q hp hq => hs (i + 1) p q (by simpa using hp) (by simpa using hq)
      exact ⟨u', by simp only [List.foldlM_cons, Builtin.min2, Sem.run_bind, Sem.run_pure, Result.andThen_ok]; exact h1, h2⟩
    · cases h
  | [], _, _, _, _ :: _, _, hl, _, _ => by simp at hl
  | _ :: _, _, _, _, [], _, hl, _, _ => by simp at hl
end
end Go.AE
