import Derived.Test.YtmomeccgdpidiaaAe1
/-! How the evaluator's values lie in the machine's memory. -/
namespace Go.AE

/-! ### Tables -/
section
variable {α : Type} (z : α)
theorem lget_lput_same : ∀ (l : List α) (n : Nat) (v : α), lget z (lput z l n v) n = v
  | [], 0, _ => rfl
  | [], n + 1, v => lget_lput_same [] n v
  | _ :: _, 0, _ => rfl
  | _ :: l, n + 1, v => lget_lput_same l n v
theorem lget_nil (n : Nat) : lget z [] n = z := by cases n <;> rfl
theorem lget_lput_ne : ∀ (l : List α) (n m : Nat) (v : α), m ≠ n → lget z (lput z l n v) m = lget z l m
  | [], 0, 0, _, h => absurd rfl h
  | [], 0, m + 1, _, _ => by simp [lput, lget]
  | [], n + 1, 0, _, _ => by simp [lput, lget]
  | [], n + 1, m + 1, v, h => by
    simp only [lput, lget]
    rw [lget_lput_ne [] n m v (by omega), lget_nil]
  | _ :: _, 0, 0, _, h => absurd rfl h
  | _ :: _, 0, m + 1, _, _ => rfl
  | _ :: _, n + 1, 0, _, _ => rfl
  | _ :: l, n + 1, m + 1, v, h => by
    simp only [lput, lget]
    exact lget_lput_ne l n m v (by omega)
theorem lget_eq_getD : ∀ (l : List α) (n : Nat), lget z l n = l.getD n z
  | [], n => by cases n <;> rfl
  | _ :: _, 0 => rfl
  | _ :: l, n + 1 => by simp [lget, lget_eq_getD l n]
end
@[simp] theorem lo_put_same (l : Ls) (d : Nat) (o : LO) : lo (loPut l d o) d = o := lget_lput_same _ _ _ _
theorem lo_put_ne (l : Ls) {d e : Nat} (o : LO) (h : e ≠ d) : lo (loPut l d o) e = lo l e := lget_lput_ne _ _ _ _ _ h
theorem lo_put (l : Ls) (d e : Nat) (o : LO) : lo (loPut l d o) e = if e = d then o else lo l e := by
  by_cases h : e = d
  · subst h; simp
  · rw [lo_put_ne l o h, if_neg h]

/-! ### Values in memory -/
/-- lv: the objects' versions; lb: their blocks and cells an element; gb: G's variables; ga: G's rows; I: the cells that nobody writes to. -/
structure Mp where
  lv : Nat → Nat
  lb : Nat → Option (Nat × Nat)
  gb : Nat → Option (Nat × Nat)
  ga : Nat → Option (Nat × List AV × Nat)
  I : Nat → Nat → Prop
def blk (w : World) (b : Nat) (cs : Array Value) (e : TypeId) : Prop := w.heap[b]? = some (.cells cs e (0, 0))

inductive VR (w : World) (m : Mp) : AV → Value → Prop
  | int (k : IntKind) (n : Int) : VR w m (.int k n) (.int k n)
  | bool (b : Bool) : VR w m (.bool b) (.bool b)
  | str (s : ByteArray) : VR w m (.str s.data.toList) (.string s)
  | nilp : VR w m .nilp (.pointer none)
  | nilf : VR w m .nilf .nilFunc
  | nili : VR w m .nili .nilIface
  | nils : VR w m .nils (.slice none 0 0)
  | nilm : VR w m .nilm (.map none)
  | ifc (t : TypeId) (y : Value) : VR w m (.ifc t) (.iface t y)
  | agg (cs : List AV) (vs : Array Value) : cs.length = vs.size → (∀ c ∈ cs, c.isCell = true) → (∀ (i : Nat) (c : AV) (v : Value), cs[i]? = some c → vs[i]? = some v → VR w m c v) → VR w m (.agg cs) (.agg vs)
  | tup (cs : List AV) (vs : Array Value) : cs.length = vs.size → (∀ (i : Nat) (c : AV) (v : Value), cs[i]? = some c → vs[i]? = some v → VR w m c v) → VR w m (.tup cs) (.tuple vs)
  | fn (f : Nat) (fs cs : List AV) (gs vs : Array Value) : fs.length = gs.size → cs.length = vs.size → (∀ c ∈ cs, c.isCell = true) →
      (∀ (i : Nat) (c : AV) (v : Value), fs[i]? = some c → gs[i]? = some v → VR w m c v) → (∀ (i : Nat) (c : AV) (v : Value), cs[i]? = some c → vs[i]? = some v → VR w m c v) → VR w m (.fn f fs cs) (.func (.func f) gs vs)
  | sl (k : Nat) (ex : Bool) (xs : List AV) (b o cap : Nat) (cv : Nat → Nat → Value) : xs.length ≤ cap → (ex = true → cap = xs.length) → (∀ x ∈ xs, x.good = true ∧ x.cells.length = k) →
      (∀ (i j : Nat) (x c : AV), xs[i]? = some x → x.cells[j]? = some c → w.cell? ⟨b, o + (i * k + j), none⟩ = some (cv i j)) → (∀ (i j : Nat) (x c : AV), xs[i]? = some x → x.cells[j]? = some c → m.I b (o + (i * k + j))) →
      (∀ (i j : Nat) (x c : AV), xs[i]? = some x → x.cells[j]? = some c → VR w m c (cv i j)) → VR w m (.sl k ex xs) (.slice (some ⟨b, o, none⟩) xs.length cap)
  | lp (d ver i j : Nat) (a : Addr) : ver ≤ m.lv d → (ver = m.lv d → ∀ b k, m.lb d = some (b, k) → a = ⟨b, i * k + j, none⟩) → VR w m (.lp d ver i j) (.pointer (some a))
  | ls (d ver i n : Nat) (a : Addr) (cap : Nat) : n ≤ cap → ver ≤ m.lv d → (ver = m.lv d → ∀ b k, m.lb d = some (b, k) → a = ⟨b, i * k, none⟩ ∧ ∃ cs e, blk w b cs e ∧ i * k + cap * k ≤ cs.size) → VR w m (.ls d ver i n) (.slice (some a) n cap)
  | gp (r i j b k : Nat) : m.gb r = some (b, k) → VR w m (.gp r i j) (.pointer (some ⟨b, i * k + j, none⟩))
  | gs (r i n k : Nat) (xs : List AV) (b0 b o cap : Nat) (cv : Nat → Nat → Value) : m.ga r = some (k, xs, b0) → i + n ≤ xs.length → n ≤ cap →
      (∀ (p j : Nat) (x c : AV), p < n → xs[i + p]? = some x → x.cells[j]? = some c → w.cell? ⟨b, o + (p * k + j), none⟩ = some (cv p j)) → (∀ (p j : Nat) (x c : AV), p < n → xs[i + p]? = some x → x.cells[j]? = some c → m.I b (o + (p * k + j))) →
      (∀ (p j : Nat) (x c : AV), p < n → xs[i + p]? = some x → x.cells[j]? = some c → VR w m c (cv p j)) →
      (i = 0 → n = xs.length → b = b0 ∧ o = 0 ∧ ∃ cs e, blk w b cs e ∧ cap * k ≤ cs.size) → VR w m (.gs r i n) (.slice (some ⟨b, o, none⟩) n cap)
  | rp (x : AV) (j b o : Nat) (cv : Nat → Value) : x.good = true → (∀ (p : Nat) (c : AV), x.cells[p]? = some c → w.cell? ⟨b, o + p, none⟩ = some (cv p)) → (∀ (p : Nat) (c : AV), x.cells[p]? = some c → m.I b (o + p)) →
      (∀ (p : Nat) (c : AV), x.cells[p]? = some c → VR w m c (cv p)) → VR w m (.rp x j) (.pointer (some ⟨b, o + j, none⟩))
  | dead (v : Value) : VR w m .dead v

/-- The memory goes on, and so does what is known of it. -/
structure Le (w w' : World) (m m' : Mp) : Prop where
  lv : ∀ d, m.lv d ≤ m'.lv d
  lb : ∀ d, m'.lv d = m.lv d → ∀ x, m'.lb d = some x → m.lb d = some x
  gb : ∀ r x, m.gb r = some x → m'.gb r = some x
  ga : ∀ r k xs b, m.ga r = some (k, xs, b) → ∃ ys b', m'.ga r = some (k, xs ++ ys, b') ∧ (ys = [] → b' = b)
  I : ∀ b o, m.I b o → m'.I b o ∧ ∀ v, w.cell? ⟨b, o, none⟩ = some v → w'.cell? ⟨b, o, none⟩ = some v
  size : ∀ b cs e, blk w b cs e → ∃ cs', blk w' b cs' e ∧ cs'.size = cs.size
theorem Le.refl (w : World) (m : Mp) : Le w w m m :=
  ⟨fun _ => Nat.le_refl _, fun _ _ _ h => h, fun _ _ h => h, fun _ _ _ b h => ⟨[], b, by simpa using h, fun _ => rfl⟩, fun _ _ h => ⟨h, fun _ hv => hv⟩, fun _ cs _ h => ⟨cs, h, rfl⟩⟩
theorem Le.trans {w w' w'' : World} {m m' m'' : Mp} (h : Le w w' m m') (k : Le w' w'' m' m'') : Le w w'' m m'' where
  lv := fun d => Nat.le_trans (h.lv d) (k.lv d)
  lb := fun d e x hx => by
    have h1 := h.lv d
    have h2 := k.lv d
    exact h.lb d (by omega) x (k.lb d (by omega) x hx)
  gb := fun r x hx => k.gb r x (h.gb r x hx)
  ga := fun r kk xs b hx => by
    obtain ⟨ys, b1, h1, e1⟩ := h.ga r kk xs b hx
    obtain ⟨zs, b2, h2, e2⟩ := k.ga r kk _ b1 h1
    refine ⟨ys ++ zs, b2, by rw [h2, List.append_assoc], fun e => ?_⟩
    simp only [List.append_eq_nil_iff] at e
    rw [e2 e.2, e1 e.1]
  I := fun b o hi => ⟨(k.I b o (h.I b o hi).1).1, fun v hv => (k.I b o (h.I b o hi).1).2 v ((h.I b o hi).2 v hv)⟩
  size := fun b cs e hb => by
    obtain ⟨c1, h1, e1⟩ := h.size b cs e hb
    obtain ⟨c2, h2, e2⟩ := k.size b c1 e h1
    exact ⟨c2, h2, by omega⟩

theorem VR.mono {w w' : World} {m m' : Mp} (h : Le w w' m m') {a : AV} {v : Value} (r : VR w m a v) : VR w' m' a v := by
  induction r with
  | int k n => exact .int k n
  | bool b => exact .bool b
  | str s => exact .str s
  | nilp => exact .nilp
  | nilf => exact .nilf
  | nili => exact .nili
  | nils => exact .nils
  | nilm => exact .nilm
  | ifc t y => exact .ifc t y
  | agg cs vs h1 h2 _ ih => exact .agg cs vs h1 h2 ih
  | tup cs vs h1 _ ih => exact .tup cs vs h1 ih
  | fn f fs cs gs vs h1 h2 h3 _ _ ih1 ih2 => exact .fn f fs cs gs vs h1 h2 h3 ih1 ih2
  | sl k ex xs b o cap cv h1 h2 h3 h4 h5 _ ih =>
    exact .sl k ex xs b o cap cv h1 h2 h3 (fun i j x c hx hc => (h.I _ _ (h5 i j x c hx hc)).2 _ (h4 i j x c hx hc)) (fun i j x c hx hc => (h.I _ _ (h5 i j x c hx hc)).1) ih
  | lp d ver i j a h1 h2 =>
    have hv := h.lv d
    exact .lp d ver i j a (by omega) fun e b k hb => h2 (by omega) b k (h.lb d (by omega) _ hb)
  | ls d ver i n a cap h0 h1 h2 =>
    have hv := h.lv d
    refine .ls d ver i n a cap h0 (by omega) fun e b k hb => ?_
    obtain ⟨ha, cs, e', hc, hs⟩ := h2 (by omega) b k (h.lb d (by omega) _ hb)
    obtain ⟨cs', hc', hs'⟩ := h.size _ _ _ hc
    exact ⟨ha, cs', e', hc', by omega⟩
  | gp r i j b k hb => exact .gp r i j b k (h.gb _ _ hb)
  | gs r i n k xs b0 b o cap cv h1 h2 h3 h4 h5 _ h6 ih =>
    obtain ⟨ys, b', h1', eb⟩ := h.ga _ _ _ _ h1
    have hx : ∀ (p : Nat) (x : AV), p < n → (xs ++ ys)[i + p]? = some x → xs[i + p]? = some x := fun p x hp hx => by
      rwa [List.getElem?_append_left (by omega)] at hx
    refine .gs r i n k (xs ++ ys) b' b o cap cv h1' (by simp; omega) h3 (fun p j x c hp hxx hc => (h.I _ _ (h5 p j x c hp (hx p x hp hxx) hc)).2 _ (h4 p j x c hp (hx p x hp hxx) hc))
      (fun p j x c hp hxx hc => (h.I _ _ (h5 p j x c hp (hx p x hp hxx) hc)).1) (fun p j x c hp hxx hc => ih p j x c hp (hx p x hp hxx) hc) fun hi hn => ?_
    have : ys = [] := by
      simp only [List.length_append] at hn
      exact List.eq_nil_of_length_eq_zero (by omega)
    subst this
    obtain ⟨e1, e2, cs, e', hc, hs⟩ := h6 hi (by simpa using hn)
    obtain ⟨cs', hc', hs'⟩ := h.size _ _ _ hc
    exact ⟨by rw [e1, eb rfl], e2, cs', e', hc', by omega⟩
  | rp x j b o cv h1 h2 h3 _ ih => exact .rp x j b o cv h1 (fun p c hc => (h.I _ _ (h3 p c hc)).2 _ (h2 p c hc)) (fun p c hc => (h.I _ _ (h3 p c hc)).1) ih
  | dead v => exact .dead v

theorem VR.cell {w : World} {m : Mp} {c : AV} {v : Value} (h : VR w m c v) (hc : c.isCell = true) : v.oneCell' = true := by
  cases h <;> first | rfl | simp [AV.isCell] at hc
/-- The cells of a value that is known. -/
theorem VR.cells {w : World} {m : Mp} {a : AV} {v : Value} (h : VR w m a v) (hk : a.known = true) :
    v.cells.size = a.cells.length ∧ (∀ c ∈ a.cells, c.isCell = true) ∧ ∀ (i : Nat) (c : AV) (u : Value), a.cells[i]? = some c → v.cells[i]? = some u → VR w m c u := by
  by_cases ha : ∃ cs, a = .agg cs
  · obtain ⟨cs, rfl⟩ := ha
    cases h with
    | agg _ vs h1 h2 h3 => exact ⟨h1.symm, h2, h3⟩
  · have e1 : a.cells = [a] := by cases a <;> first | rfl | exact absurd ⟨_, rfl⟩ ha
    have e3 : a.isCell = true := by cases a <;> first | exact absurd ⟨_, rfl⟩ ha | exact hk
    have e2 : v.cells = #[v] := by cases h <;> first | rfl | exact absurd ⟨_, rfl⟩ ha | cases e3
    rw [e1, e2]
    refine ⟨rfl, by simpa using e3, ?_⟩
    intro i c u h1 h2
    cases i with
    | zero =>
      simp at h1 h2
      subst h1 h2
      exact h
    | succ i => simp at h1
end Go.AE
