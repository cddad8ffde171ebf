import Derived.Test.YtmomeccgdpidiaaAe25
/-! Code, and whole calls. -/
namespace Go.AE
open Go.RowKit

def Ex.to : Ex → Exit
  | .norm => .normal
  | .exit id => .exit id
  | .ret => .ret
section
variable {P : Program} {eqs : TypeId → Option (List SK)} {orc : Nat → Option Orc} {call : Caller} {rounds nt : Nat} {w0 : World} {g0 : Gs} {bl0 bg0 : Bl}
theorem loopA_wp {c : Code} {f : St → Option (Ex × St)} {x : Ex} {s' : St} {Q : Exit → Act → World → Prop} (hQ : ∀ a w bl bg, CR nt w0 g0 bl0 bg0 s' a w bl bg → Q x.to a w)
    (hf : ∀ (s : St) (y : Ex) (t : St), f s = some (y, t) → ∀ (Q' : Exit → Act → World → Prop), (∀ a w bl bg, CR nt w0 g0 bl0 bg0 t a w bl bg → Q' y.to a w) → ∀ a w bl bg, CR nt w0 g0 bl0 bg0 s a w bl bg → c.wp P Q' a w) :
    ∀ (n : Nat) (s : St), loopA f n s = some (x, s') → ∀ a w bl bg, CR nt w0 g0 bl0 bg0 s a w bl bg → Code.rounds P c Q n a w
  | 0, s, h, a, w, bl, bg, hc => by cases h
  | n + 1, s, h, a, w, bl, bg, hc => by
    simp only [loopA, Option.bind_eq_some_iff] at h
    obtain ⟨⟨y, t⟩, h1, h⟩ := h
    rw [rounds_succ]
    refine hf s y t h1 _ (fun a' w' bl' bg' hc' => ?_) a w bl bg hc
    cases y with
    | norm => exact loopA_wp hQ hf n t h a' w' bl' bg' hc'
    | exit id =>
      injection h with h
      injection h with e1 e2
      subst e1 e2
      exact hQ a' w' bl' bg' hc'
    | ret =>
      injection h with h
      injection h with e1 e2
      subst e1 e2
      exact hQ a' w' bl' bg' hc'
theorem codeA_wp (hE : Env P eqs orc call) (hL : ∀ o e, Loc (fun l g => aoper P eqs orc call o (opd e) l g)) (hm : P.follows .mixedOrders = true) :
    ∀ (c : Code) (s : St) (x : Ex) (s' : St), codeA P eqs orc call rounds nt c s = some (x, s') → ∀ (Q : Exit → Act → World → Prop), (∀ a w bl bg, CR nt w0 g0 bl0 bg0 s' a w bl bg → Q x.to a w) →
      ∀ (a : Act) (w : World) (bl bg : Bl), CR nt w0 g0 bl0 bg0 s a w bl bg → c.wp P Q a w := by
  intro c
  induction c with
  | skip =>
    intro s x s' h Q hQ a w bl bg hc
    simp only [codeA, Option.some.injEq, Prod.mk.injEq] at h
    obtain ⟨rfl, rfl⟩ := h
    exact wp_skip (hQ a w bl bg hc)
  | region id ops draw =>
    intro s x s' h Q hQ a w bl bg hc
    have hx : x = .norm := (regionA_wp hE hL hm (id := id) h hc (Q := fun _ _ _ => True) fun _ _ _ _ _ => trivial).1
    subst hx
    exact (regionA_wp hE hL hm h hc hQ).2
  | seq x y ihx ihy =>
    intro s z s' h Q hQ a w bl bg hc
    simp only [codeA, Option.bind_eq_some_iff] at h
    obtain ⟨⟨e, t⟩, h1, h⟩ := h
    refine wp_seq (ihx s e t h1 _ (fun a' w' bl' bg' hc' => ?_) a w bl bg hc)
    cases e with
    | norm => exact ihy t z s' h Q hQ a' w' bl' bg' hc'
    | exit id =>
      injection h with h
      injection h with e1 e2
      subst e1 e2
      exact hQ a' w' bl' bg' hc'
    | ret =>
      injection h with h
      injection h with e1 e2
      subst e1 e2
      exact hQ a' w' bl' bg' hc'
  | cond c x y ihx ihy =>
    intro s z s' h Q hQ a w bl bg hc
    simp only [codeA, Option.bind_eq_some_iff] at h
    obtain ⟨v, hv, h⟩ := h
    split at h
    · rename_i t
      have hev := (hc.opd c _ hv).boolI
      refine wp_cond hev ?_
      cases t with
      | true => exact ihx s z s' h Q hQ a w bl bg hc
      | false => exact ihy s z s' h Q hQ a w bl bg hc
    · cases h
  | block id x ih =>
    intro s z s' h Q hQ a w bl bg hc
    simp only [codeA, Option.bind_eq_some_iff] at h
    obtain ⟨⟨e, t⟩, h1, h⟩ := h
    refine wp_block (ih s e t h1 _ (fun a' w' bl' bg' hc' => ?_) a w bl bg hc)
    cases e with
    | norm =>
      injection h with h
      injection h with e1 e2
      subst e1 e2
      exact hQ a' w' bl' bg' hc'
    | exit j =>
      simp only [Ex.to, Exit.inBlock]
      simp only at h
      split at h <;> rename_i hj
      · rw [if_pos hj]
        injection h with h
        injection h with e1 e2
        subst e1 e2
        exact hQ a' w' bl' bg' hc'
      · rw [if_neg hj]
        injection h with h
        injection h with e1 e2
        subst e1 e2
        exact hQ a' w' bl' bg' hc'
    | ret =>
      injection h with h
      injection h with e1 e2
      subst e1 e2
      exact hQ a' w' bl' bg' hc'
  | loop x ih =>
    intro s z s' h Q hQ a w bl bg hc
    simp only [codeA] at h
    exact wp_loop_rounds rounds (loopA_wp hQ (fun s y t hy Q' hQ' a w bl bg hc => ih s y t hy Q' hQ' a w bl bg hc) rounds s h a w bl bg hc)
  | exit id =>
    intro s x s' h Q hQ a w bl bg hc
    simp only [codeA, Option.some.injEq, Prod.mk.injEq] at h
    obtain ⟨rfl, rfl⟩ := h
    exact wp_exit (hQ a w bl bg hc)
  | ret =>
    intro s x s' h Q hQ a w bl bg hc
    simp only [codeA, Option.some.injEq, Prod.mk.injEq] at h
    obtain ⟨rfl, rfl⟩ := h
    exact wp_ret (hQ a w bl bg hc)
  | _ => intro s x s' h; simp [codeA] at h
end
end Go.AE
