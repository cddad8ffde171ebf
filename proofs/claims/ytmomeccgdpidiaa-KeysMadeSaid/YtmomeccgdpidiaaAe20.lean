import Derived.Test.YtmomeccgdpidiaaAe19
/-! A frame's end. -/
namespace Go.AE
open Go.RowKit

theorem renC1_id (c : AV) : renC1 id c = c := by cases c <;> rfl
theorem renC_id (c : AV) : renC id c = c := by
  cases c with
  | fn g fs cs =>
    simp only [renC, AV.fn.injEq, true_and]
    conv => rhs; rw [← List.map_id cs]
    exact List.map_congr_left fun c _ => renC1_id c
  | _ => rfl
theorem renV1_id (a : AV) : renV1 id a = a := by
  cases a with
  | agg cs =>
    simp only [renV1, AV.agg.injEq]
    conv => rhs; rw [← List.map_id cs]
    exact List.map_congr_left fun c _ => renC_id c
  | fn g fs cs => exact renC_id (.fn g fs cs)
  | _ => rfl
theorem renV_id (a : AV) : renV id a = a := by
  cases a with
  | tup cs =>
    simp only [renV, AV.tup.injEq]
    conv => rhs; rw [← List.map_id cs]
    exact List.map_congr_left fun c _ => renV1_id c
  | fn g fs cs => exact renC_id (.fn g fs cs)
  | agg cs => exact renV1_id (.agg cs)
  | _ => rfl
theorem renO_id (o : Ob) : renO id o = o := by
  obtain ⟨k, arr, fz, ok, xs⟩ := o
  cases arr
  · simp only [renO, Bool.false_eq_true, if_false, Ob.mk.injEq, true_and]
    conv => rhs; rw [← List.map_id xs]
    exact List.map_congr_left fun c _ => renV1_id c
  · rfl
section
variable {w : World} {g : Gs} {bl bg : Bl}
theorem take_get {g : Gs} {m r : Nat} {o : Ob} (h : (g.take m)[r]? = some o) : r < m ∧ g[r]? = some o := by
  have := getElem?_lt h
  simp only [List.length_take] at this
  rw [List.getElem?_take_of_lt (by omega)] at h
  exact ⟨by omega, h⟩
theorem take_of {g : Gs} {m r : Nat} {o : Ob} (hr : r < m) (h : g[r]? = some o) : (g.take m)[r]? = some o := by
  rw [List.getElem?_take_of_lt hr]; exact h
theorem Stp.close {w' : World} {l' : Ls} {g' : Gs} {bl' bg' : Bl} {wr : List Nat} (h : Stp w [] g bl bg w' l' g' bl' bg' wr) (own : Option Ob) (d : Nat) (hown : ∀ o, own = some o → o.ok = true ∧ ∃ v, lo l' d = .ob v o)
    (m : Nat) (hm : g.length ≤ m) (hcl : ∀ (r : Nat) (o : Ob), r < m → g'[r]? = some o → ∀ x ∈ refsO o, x < m) :
    Stp w [] g bl bg w' (ownL own) (g'.take m) ⟨fun _ => bl' d, bl'.J⟩ bg' (wr.filter (· < g.length)) ∧ Mv w' w' (mkM w' l' g' bl' bg') (mkM w' (ownL own) (g'.take m) ⟨fun _ => bl' d, bl'.J⟩ bg') id (· < m) := by
  have own1no : ∀ b, ¬ own1 [] bl b := fun b ⟨d, v, o, hd, _⟩ => by simp [lo, lget] at hd
  have hmv : Mv w' w' (mkM w' l' g' bl' bg') (mkM w' (ownL own) (g'.take m) ⟨fun _ => bl' d, bl'.J⟩ bg') id (· < m) := by
    refine ⟨fun r x hr hx => ?_, fun r k xs b hr hx => ?_, fun r k xs b hx x hxx => ?_, fun b p hI => ⟨⟨hI.1, fun e v o he hb => ?_, fun r o hr hb => hI.2.2 r o (take_get hr).2 hb⟩, fun _ hv => hv⟩, fun r k xs b _ _ cs e hb => ⟨cs, hb, rfl⟩⟩
    · simp only [mkM, id, List.getElem?_take_of_lt hr] at hx ⊢
      exact hx
    · simp only [mkM, id, List.getElem?_take_of_lt hr] at hx ⊢
      exact hx
    · simp only [mkM] at hx
      cases ho : g'[r]? with
      | none => simp [ho] at hx
      | some o =>
        simp only [ho] at hx
        split at hx
        · rename_i harr
          simp only [Option.some.injEq, Prod.mk.injEq] at hx
          obtain ⟨rfl, rfl, rfl⟩ := hx
          exact (h.sr.og r o ho).1.ok ((h.sr.og r o ho).2.ok harr) x hxx
        · cases hx
    · obtain ⟨_, _, ho⟩ := lo_ownL he
      obtain ⟨_, v', hlo⟩ := hown o ho
      exact hI.2.1 d v' o hlo hb
  refine ⟨⟨?_, ?_, fun b hb _ n2 => h.same b hb (own1no b) n2, fun r o hr => ?_, fun b ⟨e, v, o, he, hb⟩ => ?_, fun b ⟨r, hr, hb⟩ => h.g1 b ⟨r, by simp at hr; omega, hb⟩, h.size, h.os, h.tape, h.output, h.J, h.fz⟩, hmv⟩
  · refine ⟨fun e v o he => ?_, fun r o hr => ?_, fun e v r he => ?_, fun e e' v o v' o' he he' _ => ?_, fun r s hr hs hb => h.sr.dgg r s (by simp at hr; omega) (by simp at hs; omega) hb, fun e v o r he hr hb => ?_, h.sr.jn, fun e v o p he => ?_, fun r o p hr ha => h.sr.jg r o p (take_get hr).2 ha⟩
    · obtain ⟨rfl, _, ho⟩ := lo_ownL he
      obtain ⟨hok, v', hlo⟩ := hown o ho
      have hob := h.sr.ol d v' o hlo
      obtain ⟨cs, e, c1, c2, c3⟩ := hob.mem
      refine ⟨hob.len, hob.ok, cs, e, c1, c2, fun i j x c hx hc => ?_⟩
      obtain ⟨u, hu, hur⟩ := c3 i j x c hx hc
      exact ⟨u, hu, hur.goodT hmv.I (goodC_good (good_cells (hob.ok hok x (List.mem_of_getElem? hx)) c (List.mem_of_getElem? hc)))⟩
    · obtain ⟨h1, h2⟩ := take_get hr
      have := hmv.ob (h.sr.og r o h2).1 (h.sr.og r o h2).2 (hcl r o h1 h2) rfl
      rwa [renO_id] at this
    · cases own with
      | none => simp [ownL, lo, lget] at he
      | some o => cases e <;> simp [ownL, lo, lget] at he
    · rw [(lo_ownL he).1, (lo_ownL he').1]
    · obtain ⟨_, _, ho⟩ := lo_ownL he
      obtain ⟨_, v', hlo⟩ := hown o ho
      exact h.sr.dlg d v' o r hlo (by simp at hr; omega) hb
    · obtain ⟨_, _, ho⟩ := lo_ownL he
      obtain ⟨_, v', hlo⟩ := hown o ho
      exact h.sr.jl d v' o p hlo
  · refine ⟨fun f => by simp [mkM, lo, lget, LO.ver], fun f hf x hx => ?_, fun r x hx => ?_, fun r k xs b hx => ?_, fun b p hI => ⟨(hmv.I b p (h.le.I b p hI).1).1, (h.le.I b p hI).2⟩, h.le.size⟩
    · cases own with
      | none => simp [mkM, ownL, lo, lget] at hx
      | some o =>
        cases f with
        | zero => simp [mkM, ownL, lo, lget, LO.ver] at hf
        | succ f => simp [mkM, ownL, lo, lget] at hx
    · exact hmv.gb r x (Nat.lt_of_lt_of_le (mkM_ref (.inl ⟨_, hx⟩)) hm) (h.le.gb r x hx)
    · obtain ⟨ys, b', h1, h2⟩ := h.le.ga r k xs b hx
      exact ⟨ys, b', hmv.ga r _ _ _ (Nat.lt_of_lt_of_le (mkM_ref (.inr ⟨_, hx⟩)) hm) h1, h2⟩
  · have hrn := getElem?_lt hr
    obtain ⟨o', h1, h2, h3, h4⟩ := h.gs r o hr
    exact ⟨o', take_of (by omega) h1, h2, h3, fun hn => h4 fun hw => hn (List.mem_filter.2 ⟨hw, by simpa using hrn⟩)⟩
  · obtain ⟨_, _, ho⟩ := lo_ownL he
    obtain ⟨_, v', hlo⟩ := hown o ho
    exact h.l1 b ⟨d, v', o, hlo, hb⟩ |>.elim (fun hh => absurd hh (own1no b)) .inr
end

/-! ### What a call does -/
def ownOf : AV → Option Ob
  | .own k fz xs => some ⟨k, true, fz, true, xs⟩
  | _ => none
def resV : AV → AV
  | .own _ _ xs => .ls 0 1 0 xs.length
  | v => v
def resOk' : AV → Prop
  | .own .. => True
  | v => resOk v
/-- The arguments. -/
def ArgsR (w : World) (m : Mp) (args : List AV) (vals : Array Value) : Prop := vals.size = args.length ∧ ∀ (i : Nat) (c : AV) (u : Value), args[i]? = some c → vals[i]? = some u → VR w m c u
/-- A call ends with a result. -/
def Ends (P : Program) (f : Nat) (vals : Array Value) (w : World) (l : Ls) (g : Gs) (bl bg : Bl) (v : AV) (l' : Ls) (g' : Gs) (wr : List Nat) : Prop :=
  Calls P f vals w fun e w' => ∃ u bl' bg', e = .returned u ∧ Stp w l g bl bg w' l' g' bl' bg' wr ∧ VR w' (mkM w' l' g' bl' bg') v u
def CallOK (P : Program) (call : Caller) : Prop :=
  ∀ f args g v g' wr, call f args g = some (v, g', wr) → ∀ (w : World) (bl bg : Bl) (vals : Array Value), SR w [] g bl bg → ArgsR w (mkM w [] g bl bg) args vals → resOk' v ∧ Ends P f vals w [] g bl bg (resV v) (ownL (ownOf v)) g' wr
def OrcOK (P : Program) (orc : Nat → Option Orc) : Prop :=
  ∀ f h, orc f = some h →
    (h.eats = false → ∀ args v, h.run args = some v → resOk' v ∧ refsV v = [] ∧ ∀ (w : World) (bl bg : Bl) (vals : Array Value), SR w [] [] bl bg → ArgsR w (mkM w [] [] bl bg) args vals → Ends P f vals w [] [] bl bg (resV v) (ownL (ownOf v)) [] []) ∧
    (h.eats = true → ∀ a args v, h.run (a :: args) = some v → resOk' v ∧ refsV v = [] ∧ ∀ (w : World) (bl bg : Bl) (vals : Array Value), SR w (ownL (ownOf a)) [] bl bg → ArgsR w (mkM w (ownL (ownOf a)) [] bl bg) (resV a :: args) vals → Ends P f vals w (ownL (ownOf a)) [] bl bg (resV v) (ownL (ownOf v)) [] [])
theorem VR.own_back {w : World} {g2 : Gs} {bl2 bg2 : Bl} {o : Ob} {n : Nat} {u : Value} (h : VR w (mkM w (ownL (some o)) g2 bl2 bg2) (.ls 0 1 0 n) u) {l : Ls} {g' : Gs} {bl bg' : Bl} {d ver : Nat} (hl : lo l d = .ob ver o) (hb : bl d = bl2 0) :
    VR w (mkM w l g' bl bg') (.ls d ver 0 n) u := by
  cases h with
  | ls _ _ _ _ a cap c0 c1 c2 =>
  obtain ⟨rfl, cs, e, hc, hs⟩ := c2 (by simp [mkM, ownL, lo, lget, LO.ver]) (bl2 0) o.k (by simp [mkM, ownL, lo, lget])
  refine .ls d ver 0 n _ cap c0 (by simp [mkM, hl, LO.ver]) fun _ b k hbk => ?_
  simp only [mkM, hl, Option.some.injEq, Prod.mk.injEq] at hbk
  obtain ⟨rfl, rfl⟩ := hbk
  rw [hb]
  exact ⟨rfl, cs, e, hc, hs⟩
end Go.AE
