import Derived.Test.YtmomeccgdpidiaaAe4
/-! Single operations that leave memory as it is. -/
namespace Go.AE
open Go.RowKit
section
variable {P : Program} {w : World} {m : Mp}

/-! ### Types -/
theorem run_szP {t : TypeId} {s : Nat} (h : szP P t = some s) (w : World) : (sizeOf t).run P w = .ok s w := by
  unfold szP at h
  cases hi : P.info? t with
  | none => simp [hi] at h
  | some i =>
    simp [hi] at h
    simp [sizeOf, typeInfo, hi, h]
theorem run_aggP {t : TypeId} {ag : Bool} (h : aggP P t = some ag) (w : World) : (isAgg t).run P w = .ok ag w := by
  unfold aggP at h
  cases hu : P.underlying t with
  | none => simp [hu] at h
  | some d =>
    simp only [hu] at h
    simp only [isAgg, Sem.run_bind, run_underlying hu w, Result.andThen_ok]
    cases d <;> simp at h <;> subst h <;> rfl
theorem run_zeroP {t : TypeId} {z : AV} (h : zeroP P t = some z) (w : World) : ∃ u, (zeroValue t).run P w = .ok u w ∧ ofValue u = some z := by
  unfold zeroP at h
  cases hi : P.info? t with
  | none => simp [hi] at h
  | some i =>
    cases hz : i.zero with
    | none => simp [hi, hz] at h
    | some u =>
      simp [hi, hz] at h
      exact ⟨u, by simp [zeroValue, typeInfo, hi, hz], h⟩
theorem run_byP {t : TypeId} {s : Nat} (h : byP P t = some s) : ∃ i, P.info? t = some i ∧ i.bytes = s := by
  unfold byP at h
  cases hi : P.info? t with
  | none => simp [hi] at h
  | some i =>
    simp [hi] at h
    exact ⟨i, rfl, h⟩

/-! ### Constants -/
theorem ofCell_isCell {u : Value} {v : AV} (h : ofCell u = some v) : v.isCell = true := by
  unfold ofCell at h
  split at h <;> first | (injection h with h; subst h; rfl) | (split at h <;> first | (injection h with h; subst h; rfl) | cases h) | cases h
theorem ofCell_VR {u : Value} {v : AV} (h : ofCell u = some v) : VR w m v u := by
  unfold ofCell at h
  split at h
  · injection h with h; subst h; exact .int _ _
  · injection h with h; subst h; exact .bool _
  · injection h with h; subst h; exact .str _
  · injection h with h; subst h; exact .nilp
  · injection h with h; subst h; exact .nilf
  · injection h with h; subst h; exact .nili
  · injection h with h; subst h; exact .nils
  · injection h with h; subst h; exact .nilm
  · rename_i f a b
    split at h
    · rename_i hab
      injection h with h; subst h
      obtain ⟨ha, hb⟩ := hab
      have ha' : a = #[] := Array.eq_empty_of_size_eq_zero ha
      have hb' : b = #[] := Array.eq_empty_of_size_eq_zero hb
      subst ha' hb'
      exact .fn f [] [] #[] #[] rfl rfl (by simp) (by simp) (by simp)
    · cases h
  · cases h
theorem allSome_spec {α β : Type} {f : α → Option β} : ∀ {l : List α} {r : List β}, allSome f l = some r → r.length = l.length ∧ ∀ (i : Nat) (x : α) (y : β), l[i]? = some x → r[i]? = some y → f x = some y
  | [], r, h => by
    simp [allSome] at h
    subst h
    exact ⟨rfl, by simp⟩
  | x :: l, r, h => by
    simp only [allSome, Option.bind_eq_some_iff] at h
    obtain ⟨y, hy, ys, hys, h⟩ := h
    injection h with h
    subst h
    obtain ⟨h1, h2⟩ := allSome_spec hys
    refine ⟨by simp [h1], fun i a b ha hb => ?_⟩
    cases i with
    | zero => simp at ha hb; subst ha hb; exact hy
    | succ i => exact h2 i a b (by simpa using ha) (by simpa using hb)
theorem ofValue_VR {u : Value} {v : AV} (h : ofValue u = some v) : VR w m v u := by
  unfold ofValue at h
  split at h
  · rename_i cs
    simp only [Option.bind_eq_some_iff] at h
    obtain ⟨l, hl, h⟩ := h
    injection h with h
    subst h
    obtain ⟨h1, h2⟩ := allSome_spec hl
    refine .agg l cs (by simpa using h1) (fun c hc => ?_) fun i c u hc hu => ofCell_VR (h2 i u c (by simpa using hu) hc)
    obtain ⟨i, hi⟩ := List.getElem?_of_mem hc
    have hlt := getElem?_lt hi
    have hlt' : i < cs.toList.length := by omega
    exact ofCell_isCell (h2 i _ c (List.getElem?_eq_getElem hlt') hi)
  · rename_i vs
    split at h
    · rename_i h0
      injection h with h
      subst h
      have : vs = #[] := Array.eq_empty_of_size_eq_zero h0
      subst this
      exact .tup [] #[] rfl (by simp)
    · cases h
  · exact ofCell_VR h

/-! ### Parts of a value -/
theorem VR.aggI {cs : List AV} {v : Value} (h : VR w m (.agg cs) v) : ∃ vs : Array Value, v = .agg vs ∧ cs.length = vs.size ∧ (∀ c ∈ cs, c.isCell = true) ∧ ∀ (i : Nat) (c : AV) (u : Value), cs[i]? = some c → vs[i]? = some u → VR w m c u := by
  cases h with
  | agg _ vs h1 h2 h3 => exact ⟨vs, rfl, h1, h2, h3⟩
theorem VR.intI {k : IntKind} {n : Int} {v : Value} (h : VR w m (.int k n) v) : v = .int k n := by cases h; rfl
theorem VR.boolI {b : Bool} {v : Value} (h : VR w m (.bool b) v) : v = .bool b := by cases h; rfl
theorem VR.strI {s : List UInt8} {v : Value} (h : VR w m (.str s) v) : ∃ u : ByteArray, v = .string u ∧ u.data.toList = s := by cases h; exact ⟨_, rfl, rfl⟩
theorem natOf_VR {a : AV} {n : Nat} {v : Value} (h : natOf a = some n) (r : VR w m a v) : ∃ k, v = .int k n := by
  cases a <;> simp [natOf] at h
  rename_i k i
  obtain ⟨h0, rfl⟩ := h
  exact ⟨k, by rw [r.intI, Int.toNat_of_nonneg h0]⟩
theorem partA_run {cs : List AV} {vs : Array Value} (hl : cs.length = vs.size) (hcell : ∀ c ∈ cs, c.isCell = true) (hr : ∀ (i : Nat) (c : AV) (u : Value), cs[i]? = some c → vs[i]? = some u → VR w m c u)
    {t : TypeId} {off s : Nat} {ag : Bool} (hs : szP P t = some s) (ha : aggP P t = some ag) {x : AV} (h : partA cs off s ag = some x) :
    ∃ u, (part t vs off).run P w = .ok u w ∧ VR w m x u := by
  unfold partA at h
  unfold part
  rw [Sem.run_bind, run_aggP ha w]
  cases ag with
  | true =>
    simp only [if_true] at h ⊢
    split at h
    · rename_i hle
      injection h with h
      subst h
      refine ⟨.agg (vs.extract off (off + s)), by simp [run_szP hs w], .agg _ _ ?_ (fun c hc => hcell c (List.mem_of_mem_drop (List.mem_of_mem_take hc))) fun i c u hc hu => ?_⟩
      · simp only [List.length_take, List.length_drop, Array.size_extract]
        omega
      · have hi := getElem?_lt hc
        simp only [List.length_take, List.length_drop] at hi
        rw [List.getElem?_take_of_lt (by omega), List.getElem?_drop] at hc
        rw [Array.getElem?_extract_of_lt (by omega)] at hu
        exact hr _ c u hc (by rw [Array.getElem?_eq_getElem (by omega)]; exact hu)
    · cases h
  | false =>
    simp only [Bool.false_eq_true, if_false] at h ⊢
    have hlt := getElem?_lt h
    have hlt' : off < vs.size := by omega
    refine ⟨vs[off], by simp [Result.andThen_ok, hlt'], hr off x _ h (by simp [hlt'])⟩

/-! ### Reading memory -/
/-- The cells of a value lie at a place. -/
def lies (w : World) (m : Mp) (cs : List AV) (b p : Nat) : Prop := ∀ (j : Nat) (c : AV), cs[j]? = some c → ∃ u, w.cell? ⟨b, p + j, none⟩ = some u ∧ VR w m c u
theorem lies_vals {cs : List AV} {b p : Nat} (h : lies w m cs b p) : ∃ us : List Value, us.length = cs.length ∧ (∀ (j : Nat) (u : Value), us[j]? = some u → w.cell? ⟨b, p + j, none⟩ = some u) ∧ ∀ (j : Nat) (c : AV) (u : Value), cs[j]? = some c → us[j]? = some u → VR w m c u := by
  induction cs generalizing p with
  | nil => exact ⟨[], rfl, by simp, by simp⟩
  | cons c cs ih =>
    obtain ⟨u, hu, hr⟩ := h 0 c rfl
    obtain ⟨us, h1, h2, h3⟩ := ih (p := p + 1) fun j c' hc => by
      obtain ⟨u', hu', hr'⟩ := h (j + 1) c' hc
      exact ⟨u', by rw [show p + 1 + j = p + (j + 1) by omega]; exact hu', hr'⟩
    refine ⟨u :: us, by simp [h1], fun j v hv => ?_, fun j c' v hc hv => ?_⟩
    · cases j with
      | zero => simp at hv; subst hv; exact hu
      | succ j =>
        have := h2 j v (by simpa using hv)
        rwa [show p + 1 + j = p + (j + 1) by omega] at this
    · cases j with
      | zero => simp at hc hv; subst hc hv; exact hr
      | succ j => exact h3 j c' v (by simpa using hc) (by simpa using hv)
theorem load_run {cs : List AV} {b p : Nat} (h : lies w m cs b p) (hcell : ∀ c ∈ cs, c.isCell = true) {t : TypeId} {j s : Nat} {ag : Bool} (hs : szP P t = some s) (ha : aggP P t = some ag) {x : AV}
    (hx : partA cs j s ag = some x) : ∃ u, (Instr.loadAt t (.pointer (some ⟨b, p + j, none⟩))).run P w = .ok u w ∧ VR w m x u := by
  obtain ⟨us, h1, h2, h3⟩ := lies_vals h
  unfold partA at hx
  simp only [Instr.loadAt, Instr.sureAddr, Sem.run_bind, Sem.run_pure, Result.andThen_ok, loadVar, run_aggP ha w]
  cases ag with
  | true =>
    simp only [if_true] at hx ⊢
    split at hx
    · rename_i hle
      injection hx with hx
      subst hx
      have hl : ((us.drop j).take s).length = s := by simp; omega
      have hrun : (loadCells ⟨b, p + j, none⟩ s).run P w = .ok ((us.drop j).take s).toArray w := by
        have := run_loadCells_list (P := P) w ⟨b, p + j, none⟩ ((us.drop j).take s) (fun i v hv => by
          have hi := getElem?_lt hv
          rw [hl] at hi
          rw [List.getElem?_take_of_lt hi, List.getElem?_drop] at hv
          have := h2 _ v hv
          have e : (⟨b, p + j, none⟩ : Addr).add i = ⟨b, p + (j + i), none⟩ := by
            unfold Addr.add; split <;> simp_all [Nat.add_assoc]
          rw [e]; exact this)
        rwa [hl] at this
      refine ⟨.agg ((us.drop j).take s).toArray, by simp only [Sem.run_bind, run_szP hs w, Result.andThen_ok, hrun, Sem.run_pure], .agg _ _ (by simp; omega) (fun c hc => hcell c (List.mem_of_mem_drop (List.mem_of_mem_take hc))) fun i c u hc hu => ?_⟩
      have hi := getElem?_lt hc
      simp only [List.length_take, List.length_drop] at hi
      rw [List.getElem?_take_of_lt (by omega), List.getElem?_drop] at hc
      simp only [List.getElem?_toArray] at hu
      rw [List.getElem?_take_of_lt (by omega), List.getElem?_drop] at hu
      exact h3 _ c u hc hu
    · cases hx
  | false =>
    simp only [Bool.false_eq_true, if_false] at hx ⊢
    have hlt := getElem?_lt hx
    have hlt' : j < us.length := by omega
    refine ⟨us[j], ?_, h3 j x _ hx (List.getElem?_eq_getElem hlt')⟩
    simp [h2 j _ (List.getElem?_eq_getElem hlt')]
theorem known_cells {x : AV} (h : x.known = true) : ∀ c ∈ x.cells, c.isCell = true := by
  cases x <;> simp_all [AV.known, AV.cells]
theorem good_known {x : AV} (h : x.good = true) : x.known = true := by
  cases x <;> simp_all [AV.known, AV.good, AV.goodC, AV.isCell]
  rename_i cs
  intro c hc
  have := h c hc
  cases c <;> simp_all [AV.goodC, AV.isCell]
theorem ObR.lies {o : Ob} {b : Nat} (h : ObR w m o b) {i : Nat} {x : AV} (hx : o.xs[i]? = some x) : lies w m x.cells b (i * o.k) := by
  obtain ⟨cs, e, h1, h2, h3⟩ := h.mem
  intro j c hc
  obtain ⟨v, hv, hr⟩ := h3 i j x c hx hc
  exact ⟨v, by rw [cell_blk h1]; exact hv, hr⟩
end
/-- What a pointer leads to. -/
theorem loadA_run {P : Program} {w : World} {l : Ls} {g : Gs} {bl bg : Bl} (h : SR w l g bl bg) {t : TypeId} {s : Nat} {ag : Bool} (hs : szP P t = some s) (ha : aggP P t = some ag) {a x : AV} {fp : Fp} {v : Value}
    (hv : VR w (mkM w l g bl bg) a v) (hx : loadA l g s ag a = some (x, fp)) : ∃ u, (Instr.loadAt t v).run P w = .ok u w ∧ VR w (mkM w l g bl bg) x u := by
  have key : ∀ (o : Ob) (b i j : Nat), ObR w (mkM w l g bl bg) o b → readO o i j s ag = some x → ∃ u, (Instr.loadAt t (.pointer (some ⟨b, i * o.k + j, none⟩))).run P w = .ok u w ∧ VR w (mkM w l g bl bg) x u := fun o b i j ho hr => by
    simp only [readO, Option.bind_eq_some_iff] at hr
    obtain ⟨y, hy, hp⟩ := hr
    exact load_run (ho.lies hy) (known_cells (ho.len y (List.mem_of_getElem? hy)).2) hs ha hp
  cases a <;> simp only [loadA] at hx <;> try cases hx
  case lp d ver i j =>
    cases hv with
    | lp _ _ _ _ ad h1 h2 =>
    split at hx <;> rename_i hlo
    · rename_i vv o
      split at hx
      · rename_i e
        subst e
        simp only [Option.bind_eq_some_iff] at hx
        obtain ⟨y, hy, hx⟩ := hx
        injection hx with hx
        injection hx with e1 e2
        subst e1
        have := h2 (by simp [mkM, hlo, LO.ver]) (bl d) o.k (by simp [mkM, hlo])
        subst this
        exact key o _ i j (h.ol d _ o hlo) hy
      · cases hx
    · rename_i vv r
      split at hx
      · rename_i e
        subst e
        simp only [Option.bind_eq_some_iff] at hx
        obtain ⟨o, ho, y, hy, hx⟩ := hx
        injection hx with hx
        injection hx with e1 e2
        subst e1
        have := h2 (by simp [mkM, hlo, LO.ver]) (bg r) o.k (by simp [mkM, hlo, ho])
        subst this
        exact key o _ i j (h.og r o ho).1 hy
      · cases hx
    · cases hx
  case gp r i j =>
    cases hv with
    | gp _ _ _ b k hb =>
    simp only [Option.bind_eq_some_iff] at hx
    obtain ⟨o, ho, y, hy, hx⟩ := hx
    injection hx with hx
    injection hx with e1 e2
    subst e1
    simp only [mkM, ho] at hb
    split at hb
    · cases hb
    · injection hb with hb
      injection hb with e3 e4
      subst e3 e4
      exact key o _ i j (h.og r o ho).1 hy
  case rp y j =>
    cases hv with
    | rp _ _ b o cv h1 h2 h3 h4 =>
    simp only [Option.bind_eq_some_iff] at hx
    obtain ⟨z, hz, hx⟩ := hx
    injection hx with hx
    injection hx with e1 e2
    subst e1
    exact load_run (fun p c hc => ⟨cv p, h2 p c hc, h4 p c hc⟩) (known_cells (good_known h1)) hs ha hz
end Go.AE
