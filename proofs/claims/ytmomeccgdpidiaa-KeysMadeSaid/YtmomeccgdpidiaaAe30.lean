import Derived.Test.YtmomeccgdpidiaaAe29
/-! What an operation looks at: the operations that are no calls. -/
namespace Go.AE

theorem Loc.none : Loc (fun _ _ => (Option.none : Option R)) := fun _ _ _ h => nomatch h
theorem Loc.congr {F G : Ls → Gs → Option R} (h : ∀ l g, F l g = G l g) (hF : Loc F) : Loc G := by
  have : F = G := funext fun l => funext fun g => h l g
  exact this ▸ hF
theorem Loc.bindO {α : Type} (o : Option α) {k : α → Ls → Gs → Option R} (h : ∀ a, Loc (k a)) : Loc (fun l g => o.bind fun a => k a l g) := by
  cases o with
  | none => exact Loc.none
  | some a => exact h a
theorem Loc.ite {c : Prop} [Decidable c] {F G : Ls → Gs → Option R} (hF : Loc F) (hG : Loc G) : Loc (fun l g => if c then F l g else G l g) := by
  by_cases hc : c
  · exact Loc.congr (fun l g => by rw [if_pos hc]) hF
  · exact Loc.congr (fun l g => by rw [if_neg hc]) hG
/-- What is only read. -/
def RdL {α : Type} (A : Ls → Gs → Option (α × Fp)) : Prop := ∀ l g v fp, A l g = some (v, fp) → fp.wl = [] ∧ fp.hv = false ∧ ∀ l' g', (∀ d ∈ fp.rl, lo l' d = lo l d) → (fp.rg = true → g' = g) → A l' g' = some (v, fp)
theorem RdL.none {α : Type} : RdL (fun _ _ => (Option.none : Option (α × Fp))) := fun _ _ _ _ h => nomatch h
theorem RdL.const {α : Type} (o : Option α) : RdL (fun _ _ => o.bind fun v => some (v, Fp.no)) := by
  intro l g v fp h
  simp only [Option.bind_eq_some_iff] at h
  obtain ⟨a, ha, h⟩ := h
  injection h with h
  injection h with e1 e2
  subst e1 e2
  exact ⟨rfl, rfl, fun _ _ _ _ => by rw [ha]; rfl⟩
theorem RdL.congr {α : Type} {A B : Ls → Gs → Option (α × Fp)} (h : ∀ l g, A l g = B l g) (hA : RdL A) : RdL B := by
  have : A = B := funext fun l => funext fun g => h l g
  exact this ▸ hA
theorem RdL.bindO {α β : Type} (o : Option β) {k : β → Ls → Gs → Option (α × Fp)} (h : ∀ a, RdL (k a)) : RdL (fun l g => o.bind fun a => k a l g) := by
  cases o with
  | none => exact RdL.none
  | some a => exact h a
theorem Fp.no_rd : Fp.no.wl = [] ∧ Fp.no.hv = false := ⟨rfl, rfl⟩
theorem RdL.loadA (s : Nat) (ag : Bool) (a : AV) : RdL (fun l g => AE.loadA l g s ag a) := by
  cases a with
  | lp d ver i j =>
    intro l g v fp h
    simp only [AE.loadA] at h
    split at h
    · rename_i w o hlo
      split at h
      · rename_i hc
        simp only [Option.bind_eq_some_iff] at h
        obtain ⟨x, hx, h⟩ := h
        injection h with h
        injection h with e1 e2
        subst e1 e2
        refine ⟨rfl, rfl, fun l' g' hl _ => ?_⟩
        simp only [AE.loadA, hl d (by simp [Fp.r]), hlo]
        rw [if_pos hc, hx]; rfl
      · cases h
    · rename_i w r hlo
      split at h
      · rename_i hc
        simp only [Option.bind_eq_some_iff] at h
        obtain ⟨o, ho, x, hx, h⟩ := h
        injection h with h
        injection h with e1 e2
        subst e1 e2
        refine ⟨rfl, rfl, fun l' g' hl hg => ?_⟩
        simp only [AE.loadA, hl d (by simp [Fp.add, Fp.r, Fp.gr]), hlo, hg rfl]
        rw [if_pos hc, ho]
        simp [hx]
      · cases h
    · cases h
  | gp r i j =>
    intro l g v fp h
    simp only [AE.loadA, Option.bind_eq_some_iff] at h
    obtain ⟨o, ho, x, hx, h⟩ := h
    injection h with h
    injection h with e1 e2
    subst e1 e2
    exact ⟨rfl, rfl, fun l' g' _ hg => by simp [AE.loadA, hg rfl, ho, hx]⟩
  | rp x j => exact RdL.const _
  | _ => exact RdL.none
theorem RdL.rowOf (a : AV) : RdL (fun l g => AE.rowOf l g a) := by
  cases a with
  | nils => exact RdL.const (some [])
  | sl k ex xs => exact RdL.const (some xs)
  | ls d ver i n =>
    intro l g v fp h
    simp only [AE.rowOf] at h
    split at h
    · rename_i w o hlo
      split at h
      · rename_i hc
        injection h with h
        injection h with e1 e2
        subst e1 e2
        refine ⟨rfl, rfl, fun l' g' hl _ => ?_⟩
        simp only [AE.rowOf, hl d (by simp [Fp.r]), hlo]
        rw [if_pos hc]
      · cases h
    · cases h
  | gs r i n =>
    intro l g v fp h
    simp only [AE.rowOf, Option.bind_eq_some_iff] at h
    obtain ⟨o, ho, h⟩ := h
    split at h
    · rename_i hc
      injection h with h
      injection h with e1 e2
      subst e1 e2
      refine ⟨rfl, rfl, fun l' g' _ hg => ?_⟩
      simp only [AE.rowOf, hg rfl, ho, Option.bind_some]
      rw [if_pos hc]
    · cases h
  | _ => exact RdL.none
theorem RdL.bindP {α β : Type} {A : Ls → Gs → Option (α × Fp)} (hA : RdL A) (k : α → Option β) : RdL (fun l g => (A l g).bind fun (a, fp) => (k a).bind fun b => some (b, fp)) := by
  intro l g v fp h
  simp only [Option.bind_eq_some_iff] at h
  obtain ⟨⟨a, fp'⟩, h1, b, h2, h⟩ := h
  injection h with h
  injection h with e1 e2
  subst e1 e2
  obtain ⟨q1, q2, q3⟩ := hA l g a fp' h1
  exact ⟨q1, q2, fun l' g' hl hg => by simp [q3 l' g' hl hg, h2]⟩
variable {P : Program}
theorem RdL.convA (src dst : TypeId) (x : AV) : RdL (fun l g => AE.convA P src dst x l g) := by
  unfold AE.convA
  split
  · exact RdL.const (some _)
  · exact RdL.const (some _)
  · split
    · rename_i x0 _ _ _ _ _ _ _ _
      refine RdL.congr (fun l g => ?_) (RdL.bindP (RdL.rowOf x0) fun xs => (bytesOfA xs).bind fun b => some (AV.str b))
      congr 1
      funext p
      obtain ⟨xs, fp⟩ := p
      cases h : bytesOfA xs <;> simp [h]
    · exact RdL.none
  · exact RdL.none
theorem RdL.sliceA (t : TypeId) (x : AV) (a b : Option AV) : RdL (fun l g => AE.sliceA P t x a b l g) := by
  unfold AE.sliceA
  split
  · exact RdL.bindO _ fun h => RdL.bindO _ fun a => RdL.const (some _)
  · exact RdL.bindO _ fun s => RdL.bindO _ fun h => RdL.bindO _ fun a => RdL.const (some _)
  · split
    · exact RdL.bindO _ fun h => RdL.bindO _ fun a => RdL.const (some _)
    · exact RdL.none
  · rename_i e d ver i n hu
    intro l g v fp h
    simp only at h
    split at h
    · rename_i w o hlo
      split at h
      · rename_i hc
        simp only [Option.bind_eq_some_iff] at h
        obtain ⟨hi, h1, lo', h2, h⟩ := h
        have key : fp = .r d := by
          split at h
          · injection h with h; injection h with _ h; exact h.symm
          · injection h with h; injection h with _ h; exact h.symm
        subst key
        refine ⟨rfl, rfl, fun l' g' hl _ => ?_⟩
        simp only [hl d (by simp [Fp.r]), hlo]
        rw [if_pos hc, h1]
        simp only [Option.bind_some, h2]
        exact h
      · cases h
    · cases h
  · rename_i e r i n hu
    intro l g v fp h
    simp only [Option.bind_eq_some_iff] at h
    obtain ⟨o, ho, h⟩ := h
    split at h
    · rename_i hc
      simp only [Option.bind_eq_some_iff] at h
      obtain ⟨hi, h1, lo', h2, h⟩ := h
      have key : fp = .gr := by
        split at h
        · injection h with h; injection h with _ h; exact h.symm
        · injection h with h; injection h with _ h; exact h.symm
      subst key
      refine ⟨rfl, rfl, fun l' g' _ hg => ?_⟩
      simp only [hg rfl, ho, Option.bind_some]
      rw [if_pos hc, h1]
      simp only [Option.bind_some, h2]
      exact h
    · cases h
  · exact RdL.none
theorem RdL.indexAddrA (t : TypeId) (x i : AV) : RdL (fun l g => AE.indexAddrA P t x i l g) := by
  unfold AE.indexAddrA
  refine RdL.bindO _ fun n => ?_
  split
  · split
    · exact RdL.bindO _ fun s => RdL.const (AE.movA _ (n * s))
    · exact RdL.none
  · rename_i e d ver o m hu
    intro l g v fp h
    simp only at h
    split at h
    · rename_i w ob hlo
      split at h
      · rename_i hc
        injection h with h
        injection h with e1 e2
        subst e1 e2
        refine ⟨rfl, rfl, fun l' g' hl _ => ?_⟩
        simp only [hl d (by simp [Fp.r]), hlo]
        rw [if_pos hc]
      · cases h
    · cases h
  · split
    · exact RdL.bindO _ fun y => RdL.const (some _)
    · exact RdL.none
  · rename_i e r o m hu
    intro l g v fp h
    simp only [Option.bind_eq_some_iff] at h
    obtain ⟨ob, hob, h⟩ := h
    split at h
    · rename_i hc
      simp only [Option.bind_eq_some_iff] at h
      obtain ⟨y, hy, h⟩ := h
      injection h with h
      injection h with e1 e2
      subst e1 e2
      refine ⟨rfl, rfl, fun l' g' _ hg => ?_⟩
      simp only [hg rfl, hob, Option.bind_some]
      rw [if_pos hc, hy]
      rfl
    · cases h
  · exact RdL.none
theorem RdL.srcA (e : TypeId) (tx : TypeDesc) (x : AV) : RdL (fun l g => AE.srcA P e tx x l g) := by
  unfold AE.srcA
  split
  · split
    · exact RdL.rowOf x
    · exact RdL.none
  · split
    · exact RdL.const (some _)
    · exact RdL.none
  · exact RdL.none
theorem Loc.ret1 (v : Option AV) : Loc (fun l g => AE.ret1 v l g) := by
  intro l g r h
  obtain ⟨x, hx, rfl⟩ := ret1_spec h
  subst hx
  exact ⟨by simp [Fp.no], fun _ _ => rfl, fun _ => rfl, fun _ => rfl, fun l' g' _ _ => ⟨⟨x, l', g', .no, []⟩, rfl, rfl, rfl, rfl, fun _ _ => rfl, fun _ => rfl, by simp [Fp.no], by simp [Fp.no]⟩⟩
theorem Loc.ret2 {A : Ls → Gs → Option (AV × Fp)} (hA : RdL A) : Loc (fun l g => AE.ret2 (A l g) l g) := by
  intro l g r h
  obtain ⟨x, fp, hx, rfl⟩ := ret2_spec h
  obtain ⟨q1, q2, q3⟩ := hA l g x fp hx
  refine ⟨by simp [q1], fun _ _ => rfl, fun _ => rfl, fun _ => rfl, fun l' g' hl hg => ⟨⟨x, l', g', fp, []⟩, ?_, rfl, rfl, rfl, fun _ _ => rfl, fun _ => rfl, by simp [q1], by simp [q2]⟩⟩
  have := q3 l' g' hl fun h => hg (by simp [h])
  simp only [AE.ret2, this, Option.bind_some]
theorem Loc.new1 (dst : Option Nat) (o : Ob) (mk : Nat → Nat → AV) : Loc (fun l g => AE.new1 dst l g o mk) := by
  intro l g r h
  obtain ⟨d, hd, rfl⟩ := new1_spec h
  subst hd
  refine ⟨by simp [Fp.w], fun e he => lo_put_ne _ _ (by simpa [Fp.w] using he), fun _ => rfl, fun _ => rfl, fun l' g' hl hg => ⟨⟨mk d ((lo l' d).ver + 1), loPut l' d (.ob ((lo l' d).ver + 1) o), g', .w d, []⟩, by simp only [AE.new1, newL_eq, Option.bind_some], ?_, rfl, rfl, fun e he => lo_put_ne _ _ (by simpa [Fp.w] using he), fun _ => rfl, fun e he => ?_, by simp [Fp.w]⟩⟩
  · show mk d _ = mk d _
    rw [hl d (by simp [Fp.w])]
  · have : e = d := by simpa [Fp.w] using he
    subst this
    show lo (loPut _ _ _) _ = lo (loPut _ _ _) _
    rw [lo_put_same, lo_put_same, hl e (by simp [Fp.w])]
end Go.AE
