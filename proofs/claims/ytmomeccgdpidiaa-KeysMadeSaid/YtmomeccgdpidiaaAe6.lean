import Derived.Test.YtmomeccgdpidiaaAe5
/-! Values reckoned out of values. -/
namespace Go.AE
open Go.RowKit

/-- What the table of comparable types says is so. -/
def EqsOK (P : Program) (eqs : TypeId → Option (List SK)) : Prop :=
  ∀ (t : TypeId) (sh : List SK), eqs t = some sh → P.eqGuardType P.depth t = false ∧
    ∀ (w : World) (m : Mp) (as bs : List AV) (xs ys : Array Value) (r : Bool), VR w m (.agg as) (.agg xs) → VR w m (.agg bs) (.agg ys) → eqCells sh as bs = some r → (Op.equal t (.agg xs) (.agg ys)).run P w = .ok r w
section
variable {P : Program} {w : World} {m : Mp}
theorem intOp_run {op : BinOp} {k : IntKind} {a b : Int} {v : AV} (h : intOp op k a b = some v) (t : TypeId) : ∃ u, (binOp op t (.int k a) (.int k b)).run P w = .ok u w ∧ VR w m v u := by
  cases op <;> simp only [intOp] at h
  case quo =>
    split at h
    · cases h
    · rename_i hb; injection h with h; subst h; exact ⟨_, by simp [binOp, Op.intDiv, hb], .int _ _⟩
  case rem =>
    split at h
    · cases h
    · rename_i hb; injection h with h; subst h; exact ⟨_, by simp [binOp, Op.intDiv, hb], .int _ _⟩
  case shl => cases h
  case shr => cases h
  all_goals
    injection h with h
    subst h
    first
    | exact ⟨_, by simp only [binOp, ne_eq, not_true, if_false]; rfl, .int _ _⟩
    | exact ⟨_, by simp only [binOp, ne_eq, not_true, if_false]; rfl, .bool _⟩
theorem strOp_run {op : BinOp} {a b : List UInt8} {v : AV} (h : strOp op a b = some v) (t : TypeId) {x y : ByteArray} (hx : x.data.toList = a) (hy : y.data.toList = b) : ∃ u, (binOp op t (.string x) (.string y)).run P w = .ok u w ∧ VR w m v u := by
  subst hx hy
  have e1 : x.toList = x.data.toList := ByteArray.toList_eq x
  have e2 : y.toList = y.data.toList := ByteArray.toList_eq y
  have key : ∀ op, binOp op t (.string x) (.string y) = Op.stringOp op x y := fun op => by cases op <;> rfl
  rw [key]
  cases op <;> simp only [strOp] at h <;> try cases h
  case add =>
    split at h
    · rename_i hle
      injection h with h
      subst h
      refine ⟨.string (x ++ y), ?_, ?_⟩
      · have hn : ¬ (((x.size + y.size : Nat) : Int) > IntKind.i64.max) := by
          have h1 : x.size = x.data.toList.length := Array.length_toList.symm
          have h2 : y.size = y.data.toList.length := Array.length_toList.symm
          have h3 : IntKind.i64.max = 9223372036854775807 := by decide
          omega
        simp only [Op.stringOp]
        rw [if_neg hn]
        rfl
      · have : (x ++ y).data.toList = x.data.toList ++ y.data.toList := by simp [ByteArray.data_append]
        rw [← this]
        exact .str _
    · cases h
  all_goals exact ⟨_, by simp only [Op.stringOp, e1, e2]; rfl, .bool _⟩
theorem eqOp_spec {op : BinOp} {r : Bool} {v : AV} (h : eqOp op r = some v) : (op = .eql ∧ v = .bool r) ∨ (op = .neq ∧ v = .bool (!r)) := by
  cases op <;> simp [eqOp] at h
  · exact .inl ⟨rfl, h.symm⟩
  · exact .inr ⟨rfl, h.symm⟩
/-- '==' and '!=' by the model's own test. -/
theorem eq_run {op : BinOp} {t : TypeId} {x y : Value} {r : Bool} {v : AV} (h : eqOp op r = some v) (he : (Op.equal t x y).run P w = .ok r w) (hn1 : ∀ op, op = .eql ∨ op = .neq → binOp op t x y = (match op with | .eql => (do pure (.bool (← Op.equal t x y))) | _ => (do pure (.bool (!(← Op.equal t x y)))))) :
    ∃ u, (binOp op t x y).run P w = .ok u w ∧ VR w m v u := by
  rcases eqOp_spec h with ⟨rfl, rfl⟩ | ⟨rfl, rfl⟩
  · exact ⟨.bool r, by rw [hn1 _ (.inl rfl)]; simp [he], .bool _⟩
  · exact ⟨.bool (!r), by rw [hn1 _ (.inr rfl)]; simp [he], .bool _⟩
theorem equal_pos (t : TypeId) (x y : Value) : ∃ d, Op.equal t x y = Op.equalIn (d + 1) t x y := ⟨9999, rfl⟩
theorem binA_run {eqs : TypeId → Option (List SK)} (he : EqsOK P eqs) {op : BinOp} {t : TypeId} {x y v : AV} (h : binA P eqs op t x y = some v) {a b : Value} (ha : VR w m x a) (hb : VR w m y b) (ox oy : Operand) :
    ∃ u, (do eqGuard op t ox oy a b; binOp op t a b : Sem Value).run P w = .ok u w ∧ VR w m v u := by
  have skip : ∀ {x' : AV}, VR w m x' a → (∀ cs, x' ≠ .agg cs) → x' ≠ .nili → x' ≠ .dead → (eqGuard op t ox oy a b).run P w = .ok () w := fun {x'} hx h1 h2 h3 => by
    cases hx <;> first | exact absurd rfl h2 | exact absurd rfl h3 | exact absurd rfl (h1 _) | (cases op <;> rfl)
  have wrap : ∀ {u : Value}, (eqGuard op t ox oy a b).run P w = .ok () w → (binOp op t a b).run P w = .ok u w → (do eqGuard op t ox oy a b; binOp op t a b : Sem Value).run P w = .ok u w := fun h1 h2 => by
    rw [Sem.run_bind, h1]
    exact h2
  unfold binA at h
  split at h
  · -- whole numbers
    rename_i k n k' n'
    have hg := skip ha (by simp) (by simp) (by simp)
    rw [ha.intI, hb.intI] at hg ⊢
    rw [ha.intI, hb.intI] at wrap
    split at h
    · split at h
      · cases h
      · rename_i hn
        injection h with h
        subst h
        exact ⟨_, wrap hg (by simp only [binOp, Op.shift, if_neg hn]; rfl), .int _ _⟩
    · split at h
      · cases h
      · rename_i hn
        injection h with h
        subst h
        exact ⟨_, wrap hg (by simp only [binOp, Op.shift, if_neg hn]; rfl), .int _ _⟩
    · split at h
      · rename_i hk
        subst hk
        obtain ⟨u, h1, h2⟩ := intOp_run (P := P) (w := w) (m := m) h t
        exact ⟨u, wrap hg h1, h2⟩
      · cases h
  · rename_i s s'
    have hg := skip ha (by simp) (by simp) (by simp)
    obtain ⟨x', e1, e2⟩ := ha.strI
    obtain ⟨y', e3, e4⟩ := hb.strI
    subst e1 e3
    obtain ⟨u, h1, h2⟩ := strOp_run (P := P) (w := w) (m := m) h t e2 e4
    exact ⟨u, wrap hg h1, h2⟩
  · rename_i c c'
    have hg := skip ha (by simp) (by simp) (by simp)
    rw [ha.boolI, hb.boolI] at hg ⊢
    rw [ha.boolI, hb.boolI] at wrap
    split at h
    · rename_i hu
      obtain ⟨u, h1, h2⟩ := eq_run (P := P) (w := w) (m := m) (t := t) (x := .bool c) (y := .bool c') h (by obtain ⟨d, e⟩ := equal_pos t (.bool c) (.bool c'); rw [e]; simp [Op.equalIn, run_underlying hu w]) (by rintro _ (rfl | rfl) <;> rfl)
      exact ⟨u, wrap hg h1, h2⟩
    · cases h
  · rename_i as bs
    simp only [Option.bind_eq_some_iff] at h
    obtain ⟨sh, hsh, r, hr, h⟩ := h
    obtain ⟨g1, g2⟩ := he t sh hsh
    obtain ⟨xs, e1, _⟩ := ha.aggI
    obtain ⟨ys, e2, _⟩ := hb.aggI
    subst e1 e2
    have hg : (eqGuard op t ox oy (.agg xs) (.agg ys)).run P w = .ok () w := by
      cases op <;> first | rfl | (simp only [eqGuard, Sem.run_bind, Bool.not_true, Bool.not_false, Bool.false_eq_true, if_false, if_true, Sem.run_pure, Result.andThen_ok, run_program, g1])
    obtain ⟨u, h1, h2⟩ := eq_run (P := P) (w := w) (m := m) h (g2 w m as bs xs ys r ha hb hr) (by rintro _ (rfl | rfl) <;> rfl)
    exact ⟨u, wrap hg h1, h2⟩
  · -- pointers, slices, functions and maps against nil
    have fin : ∀ {r : Bool}, eqOp op r = some v → (eqGuard op t ox oy a b).run P w = .ok () w → (Op.equal t a b).run P w = .ok r w → (∀ op, op = .eql ∨ op = .neq → binOp op t a b = (match op with | .eql => (do pure (.bool (← Op.equal t a b))) | _ => (do pure (.bool (!(← Op.equal t a b)))))) → ∃ u, (do eqGuard op t ox oy a b; binOp op t a b : Sem Value).run P w = .ok u w ∧ VR w m v u := fun {r} h1 h2 h3 h4 => by
      obtain ⟨u, h5, h6⟩ := eq_run (P := P) (w := w) (m := m) h1 h3 h4
      exact ⟨u, wrap h2 h5, h6⟩
    split at h <;> first
      | (cases h; done)
      | (cases ha; cases hb
         refine fin h (by cases op <;> rfl) ?_ (by rintro _ (rfl | rfl) <;> rfl)
         have hu := ‹P.underlying t = some _›
         obtain ⟨d, e⟩ := equal_pos t _ _
         rw [e]
         simp [Op.equalIn, run_underlying hu w])
theorem unA_run {op : UnOp} {x v : AV} (h : unA op x = some v) {a : Value} (ha : VR w m x a) : ∃ u, (Op.unary op a).run P w = .ok u w ∧ VR w m v u := by
  unfold unA at h
  split at h
  · rw [ha.intI]
    injection h with h
    subst h
    exact ⟨_, by simp only [Op.unary, Op.intArith]; rfl, .int _ _⟩
  · rw [ha.intI]
    simp only [intOp] at h
    injection h with h
    subst h
    exact ⟨_, by simp only [Op.unary, Op.intBits]; rfl, .int _ _⟩
  · rw [ha.boolI]
    injection h with h
    subst h
    exact ⟨_, by simp only [Op.unary]; rfl, .bool _⟩
  · cases h
end
end Go.AE
