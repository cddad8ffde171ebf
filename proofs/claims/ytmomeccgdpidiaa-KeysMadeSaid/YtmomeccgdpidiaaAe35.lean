import Derived.Test.YtmomeccgdpidiaaAe1
/-! The evaluator as a condition: each step is forced, so that what is left open is seen. -/
namespace Go.AE
def wOpt {α : Type} (o : Option α) (k : α → Prop) : Prop := match o with | some a => k a | none => False
def wIf (b : Bool) (t f : Prop) : Prop := match b with | true => t | false => f
theorem wOpt_intro {α : Type} {o : Option α} {a : α} {k : α → Prop} (h : o = some a) (hk : k a) : wOpt o k := by subst h; exact hk
theorem wOpt_elim {α : Type} {o : Option α} {k : α → Prop} (h : wOpt o k) : ∃ a, o = some a ∧ k a := by
  cases o with
  | none => exact h.elim
  | some a => exact ⟨a, rfl, h⟩
theorem wIf_intro {b : Bool} {t f : Prop} (ht : b = true → t) (hf : b = false → f) : wIf b t f := by cases b; exact hf rfl; exact ht rfl
theorem wIf_t {b : Bool} {t f : Prop} (h : b = true) (ht : t) : wIf b t f := by subst h; exact ht
theorem wIf_f {b : Bool} {t f : Prop} (h : b = false) (hf : f) : wIf b t f := by subst h; exact hf
theorem wIf_must {b : Bool} {t : Prop} (h : wIf b t False) : b = true ∧ t := by cases b; exact h.elim; exact ⟨rfl, h⟩

/-! ### What forces -/
def fB (b : Bool) (k : Bool → Prop) : Prop := match b with | true => k true | false => k false
theorem fB_iff (b : Bool) (k : Bool → Prop) : fB b k ↔ k b := by cases b <;> exact Iff.rfl
def fN : Nat → (Nat → Prop) → Prop
  | 0, k => k 0
  | n + 1, k => fN n fun m => k (m + 1)
theorem fN_iff : ∀ (n : Nat) (k : Nat → Prop), fN n k ↔ k n
  | 0, _ => Iff.rfl
  | n + 1, k => fN_iff n fun m => k (m + 1)
def fL {α : Type} (f : α → (α → Prop) → Prop) : List α → (List α → Prop) → Prop
  | [], k => k []
  | x :: l, k => f x fun y => fL f l fun l' => k (y :: l')
theorem fL_iff {α : Type} {f : α → (α → Prop) → Prop} (hf : ∀ x k, f x k ↔ k x) : ∀ (l : List α) (k : List α → Prop), fL f l k ↔ k l
  | [], _ => Iff.rfl
  | x :: l, k => by rw [fL, hf, fL_iff hf l]
def fI {α : Type} (x : α) (k : α → Prop) : Prop := k x
theorem fI_iff {α : Type} (x : α) (k : α → Prop) : fI x k ↔ k x := Iff.rfl
def fC (c : AV) (K : AV → Prop) : Prop :=
  match c with
  | .int k n => K (.int k n)
  | .bool b => K (.bool b)
  | .str s => K (.str s)
  | .sl k e xs => fN k fun k => K (.sl k e xs)
  | .fn f fs cs => fL fI fs fun fs => fL fI cs fun cs => K (.fn f fs cs)
  | .lp d v i j => fN j fun j => K (.lp d v i j)
  | .ls d v i n => K (.ls d v i n)
  | .gp r i j => fN r fun r => fN j fun j => K (.gp r i j)
  | .gs r i n => fN r fun r => K (.gs r i n)
  | c => K c
theorem fC_iff (c : AV) (K : AV → Prop) : fC c K ↔ K c := by
  cases c <;> simp only [fC, fN_iff, fL_iff fI_iff]
def fV1 (c : AV) (K : AV → Prop) : Prop :=
  match c with
  | .agg cs => fL fC cs fun cs => K (.agg cs)
  | c => fC c K
theorem fV1_iff (c : AV) (K : AV → Prop) : fV1 c K ↔ K c := by
  cases c <;> simp only [fV1, fC_iff, fL_iff fC_iff]
def fV (c : AV) (K : AV → Prop) : Prop :=
  match c with
  | .tup cs => fL fV1 cs fun cs => K (.tup cs)
  | c => fV1 c K
theorem fV_iff (c : AV) (K : AV → Prop) : fV c K ↔ K c := by
  cases c <;> simp only [fV, fV1_iff, fL_iff fV1_iff]
def fO (o : Ob) (K : Ob → Prop) : Prop :=
  match o with
  | ⟨n, arr, fz, ok, xs⟩ => fN n fun n => fB fz fun fz => fB ok fun ok =>
    match arr with
    | true => K ⟨n, true, fz, ok, xs⟩
    | false => fL fV1 xs fun xs => K ⟨n, false, fz, ok, xs⟩
theorem fO_iff (o : Ob) (K : Ob → Prop) : fO o K ↔ K o := by
  obtain ⟨n, arr, fz, ok, xs⟩ := o
  cases arr <;> simp only [fO, fN_iff, fB_iff, fL_iff fV1_iff]
def fLO (o : LO) (K : LO → Prop) : Prop :=
  match o with
  | .gone v => K (.gone v)
  | .ob v o => fO o fun o => K (.ob v o)
  | .fwd v r => fN r fun r => K (.fwd v r)
theorem fLO_iff (o : LO) (K : LO → Prop) : fLO o K ↔ K o := by
  cases o <;> simp only [fLO, fO_iff, fN_iff]
def lputK {α : Type} (z : α) : List α → Nat → α → (List α → Prop) → Prop
  | [], 0, v, k => k [v]
  | [], n + 1, v, k => lputK z [] n v fun l' => k (z :: l')
  | _ :: l, 0, v, k => k (v :: l)
  | x :: l, n + 1, v, k => lputK z l n v fun l' => k (x :: l')
theorem lputK_iff {α : Type} (z : α) : ∀ (l : List α) (n : Nat) (v : α) (k : List α → Prop), lputK z l n v k ↔ k (lput z l n v)
  | [], 0, _, _ => Iff.rfl
  | [], n + 1, v, k => lputK_iff z [] n v fun l' => k (z :: l')
  | _ :: _, 0, _, _ => Iff.rfl
  | x :: l, n + 1, v, k => lputK_iff z l n v fun l' => k (x :: l')

/-! ### Steps -/
section
variable (P : Program) (eqs : TypeId → Option (List SK)) (orc : Nat → Option Orc) (call : Caller) (rounds : Nat)
/-- May an operation change the frame's objects? -/
def movesL (o : Oper) : Bool :=
  match o.op with
  | .alloc _ | .box .. | .buildSlice .. | .store .. | .makeSlice .. | .call _ => true
  | _ => false
def wReach (g : Gs) : Nat → List Nat → (List Nat → Prop) → Prop
  | 0, l, K => K l
  | n + 1, l, K => fL fN (addNew l (l.flatMap fun r => match g[r]? with | some o => refsO o | none => [])) fun l => wReach g n l K
theorem wReach_iff (g : Gs) : ∀ (n : Nat) (l : List Nat) (K : List Nat → Prop), wReach g n l K ↔ K (reach g n l)
  | 0, _, _ => Iff.rfl
  | n + 1, l, K => by rw [wReach, fL_iff fN_iff, wReach_iff g n, reach]; exact Iff.rfl
def wImp (dst : Option Nat) (v : AV) (l : Ls) (g : Gs) (fp : Fp) (wg : List Nat) (K : R → Prop) : Prop := wOpt (impA dst v l g fp wg) K
def wAcall (f : Nat) (args : List AV) (dst : Option Nat) (l : Ls) (g : Gs) (K : R → Prop) : Prop :=
  match orc f with
  | some h =>
    match h.eats with
    | true =>
      match args with
      | a :: as => wOpt (mapS (expV false) as ⟨l, g, .no⟩) fun p =>
        match p with
        | (as, ⟨l, g, fp⟩) => fL fV1 as fun as => fL fLO l fun l => fL fO g fun g =>
          wIf (as.all (fun a => (refsV a).isEmpty)) (wOpt (eatA a l) fun p => match p with | (a, l', fp') => wOpt (h.run (a :: as)) fun v => wImp dst v l' g (fp.add fp') [] K) False
      | [] => False
    | false => wOpt (mapS (expV false) args ⟨l, g, .no⟩) fun p =>
      match p with
      | (as, ⟨l, g, fp⟩) => fL fV1 as fun as => fL fLO l fun l => fL fO g fun g =>
        wIf (as.all (fun a => (refsV a).isEmpty)) (wOpt (h.run as) fun v => wImp dst v l g fp [] K) False
  | none =>
    wOpt (mapS (expV false) args ⟨l, g, .no⟩) fun p =>
    match p with
    | (as, ⟨l, g, fp⟩) => fL fV1 as fun as => fL fLO l fun l => fL fO g fun g =>
      fL fN (addNew [] (as.flatMap refsV)) fun ids0 => wReach g depthG ids0 fun ids =>
      wOpt (pick g ids) fun gs =>
      wIf (gs.all (fun o => (refsO o).all fun r => ids.any (· == r)))
        (fL fV1 (as.map (renV (idx · ids))) fun as' => fL fO (gs.map (renO (idx · ids))) fun gs' =>
          wOpt (call f as' gs') fun q =>
          match q with
          | (v, g', w) =>
            wIf (decide (w.isEmpty ∧ g'.length = ids.length))
              (wIf ids.isEmpty (wIf (refsV v).isEmpty (wImp dst v l g fp [] K) False) (wImp dst (renV (outI ids g.length) v) l g (fp.add .gr) [] K))
              (wImp dst (renV (outI ids g.length) v) l (back (outI ids g.length) g ids g') (fp.add .gw) (w.map (outI ids g.length)) K)) False
theorem wAcall_sound {f : Nat} {args : List AV} {dst : Option Nat} {l : Ls} {g : Gs} {K : R → Prop} (h : wAcall orc call f args dst l g K) : ∃ r, acall orc call f args dst l g = some r ∧ K r := by
  unfold wAcall at h
  unfold acall
  cases ho : orc f with
  | some hh =>
    simp only [ho] at h ⊢
    cases he : hh.eats with
    | true =>
      simp only [he] at h ⊢
      cases args with
      | nil => exact h.elim
      | cons a as =>
        obtain ⟨⟨as', ⟨l1, g1, fp⟩⟩, hm, h⟩ := wOpt_elim h
        replace h := (fL_iff fV1_iff _ _).1 h
        rw [fL_iff fLO_iff, fL_iff fO_iff] at h
        obtain ⟨h1, h⟩ := wIf_must h
        obtain ⟨⟨a', l', fp'⟩, h2, h⟩ := wOpt_elim h
        obtain ⟨v, h3, h⟩ := wOpt_elim h
        obtain ⟨r, h4, h⟩ := wOpt_elim h
        dsimp only at h1 h2 h3 h4
        exact ⟨r, by simp only [hm, h1, h2, h3, h4, Option.bind_some, if_true], h⟩
    | false =>
      simp only [he] at h ⊢
      obtain ⟨⟨as', ⟨l1, g1, fp⟩⟩, hm, h⟩ := wOpt_elim h
      replace h := (fL_iff fV1_iff _ _).1 h
      rw [fL_iff fLO_iff, fL_iff fO_iff] at h
      obtain ⟨h1, h⟩ := wIf_must h
      obtain ⟨v, h3, h⟩ := wOpt_elim h
      obtain ⟨r, h4, h⟩ := wOpt_elim h
      dsimp only at h1 h3 h4
      exact ⟨r, by simp only [hm, h1, h3, h4, Option.bind_some, if_true, Bool.false_eq_true, if_false], h⟩
  | none =>
    simp only [ho] at h ⊢
    obtain ⟨⟨as', ⟨l1, g1, fp⟩⟩, hm, h⟩ := wOpt_elim h
    replace h := (fL_iff fV1_iff _ _).1 h
    rw [fL_iff fLO_iff, fL_iff fO_iff, fL_iff fN_iff, wReach_iff] at h
    simp only [hm, Option.bind_some]
    revert h
    dsimp only
    generalize reach g1 depthG (addNew [] (as'.flatMap refsV)) = ids
    intro h
    obtain ⟨gs, h1, h⟩ := wOpt_elim h
    obtain ⟨h2, h⟩ := wIf_must h
    rw [fL_iff fV1_iff, fL_iff fO_iff] at h
    obtain ⟨⟨v, g', w⟩, h3, h⟩ := wOpt_elim h
    simp only [Option.bind_some, h1, h2, if_true, h3]
    by_cases hc : w.isEmpty ∧ g'.length = ids.length
    · rw [if_pos hc]
      simp only [hc, and_self, decide_true] at h
      cases hi : ids.isEmpty with
      | true =>
        rw [hi] at h
        obtain ⟨h4, h⟩ := wIf_must h
        rw [if_pos rfl, if_pos h4]
        exact wOpt_elim h
      | false =>
        rw [hi] at h
        rw [if_neg (by simp)]
        exact wOpt_elim h
    · rw [if_neg hc]
      rw [decide_eq_false hc] at h
      exact wOpt_elim h
def wOper (o : Oper) (ρ : Operand → Option AV) (l : Ls) (g : Gs) (K : R → Prop) : Prop :=
  match o.op with
  | .indexAddr t x i => wOpt (ρ x) fun x => wOpt (ρ i) fun i =>
    match x, i with
    | .sl k ex xs, .int ki n =>
      match P.underlying t with
      | some (.slice e) => wIf (decide (0 ≤ n)) (wIf (decide (szP P e = some k)) (wOpt xs[n.toNat]? fun y => K ⟨.rp y 0, l, g, .no, []⟩) False) False
      | _ => wOpt (ret2 (indexAddrA P t (.sl k ex xs) (.int ki n) l g) l g) K
    | x, i => wOpt (ret2 (indexAddrA P t x i l g) l g) K
  | .call c =>
    match c.callee with
    | .value f => wOpt (ρ f) fun f =>
      match f with
      | .fn h fs cs => wOpt (allSome ρ c.args.toList) fun as => wAcall orc call h (fs ++ as ++ cs) o.dst l g K
      | _ => False
    | _ => wOpt (aop P eqs o ρ l g) K
  | _ => wOpt (aop P eqs o ρ l g) K
theorem wOper_sound {o : Oper} {ρ : Operand → Option AV} {l : Ls} {g : Gs} {K : R → Prop} (h : wOper P eqs orc call o ρ l g K) : ∃ r, aoper P eqs orc call o ρ l g = some r ∧ K r := by
  unfold wOper at h
  unfold aoper
  split at h
  · rename_i t x i hop
    obtain ⟨x', hx, h⟩ := wOpt_elim h
    obtain ⟨i', hi, h⟩ := wOpt_elim h
    simp only [hop, aop, hx, hi, Option.bind_some]
    split at h
    · split at h
      · rename_i e hu
        obtain ⟨h1, h⟩ := wIf_must h
        obtain ⟨h2, h⟩ := wIf_must h
        obtain ⟨y, hy, h⟩ := wOpt_elim h
        have h1 := of_decide_eq_true h1
        have h2 := of_decide_eq_true h2
        refine ⟨_, ?_, h⟩
        simp [indexAddrA, natOf, h1, h2, hu, hy, ret2]
      · exact wOpt_elim h
    · exact wOpt_elim h
  · rename_i c hop
    simp only [hop]
    split at h
    · rename_i f hc
      simp only [hc]
      obtain ⟨f', hf, h⟩ := wOpt_elim h
      simp only [hf]
      split at h
      · obtain ⟨as, ha, h⟩ := wOpt_elim h
        simp only [ha, Option.bind_some]
        exact wAcall_sound orc call h
      · exact h.elim
    · rename_i hne
      obtain ⟨r, hr, h⟩ := wOpt_elim h
      refine ⟨r, ?_, h⟩
      split
      · rename_i f hc
        exact (hne f hc).elim
      · exact hr
  · rename_i hne
    obtain ⟨r, hr, h⟩ := wOpt_elim h
    refine ⟨r, ?_, h⟩
    split
    · rename_i c hc
      exact (hne c hc).elim
    · exact hr
def wPut (nt : Nat) (o : Oper) (e : List AV) (wr : List Nat) (r : R) (K : St → Fp → Prop) : Prop :=
  match r with
  | ⟨v, l, g, fp, wg⟩ =>
  fV v fun v =>
  (match movesL o with | true => fL fLO l | false => fI l) fun l =>
  (match movesL o with | true => fL fO g | false => fI g) fun g =>
  fL fI (addNew wr wg) fun wr =>
  match o.dst with
  | none => K ⟨e, l, g, wr⟩ fp
  | some d => wIf (decide (d < nt)) (lputK AV.dead e d v fun e => K ⟨e, l, g, wr⟩ fp) False
theorem wPut_sound {nt : Nat} {o : Oper} {e : List AV} {wr : List Nat} {r : R} {K : St → Fp → Prop} (h : wPut nt o e wr r K) : ∃ e', putA nt e o.dst r.v = some e' ∧ K ⟨e', r.l, r.g, addNew wr r.wg⟩ r.fp := by
  obtain ⟨v, l, g, fp, wg⟩ := r
  unfold wPut at h
  replace h := (fV_iff _ _).1 h
  have h : (match o.dst with | none => K ⟨e, l, g, addNew wr wg⟩ fp | some d => wIf (decide (d < nt)) (lputK AV.dead e d v fun e => K ⟨e, l, g, addNew wr wg⟩ fp) False) := by
    cases hm : movesL o <;> simp only [hm, fI_iff, fL_iff fI_iff, fL_iff fLO_iff, fL_iff fO_iff] at h <;> exact h
  unfold putA
  cases hd : o.dst with
  | none => rw [hd] at h; exact ⟨_, rfl, h⟩
  | some d =>
    rw [hd] at h
    obtain ⟨h1, h⟩ := wIf_must h
    rw [lputK_iff] at h
    exact ⟨_, if_pos (of_decide_eq_true h1), h⟩
def wSkip (nt : Nat) (o : Oper) (e : List AV) (l : Ls) (g : Gs) (w : List Nat) (K : St → Fp → Prop) : Prop :=
  match o.dst with | none => K ⟨e, l, g, w⟩ .no | some d => wIf (decide (d < nt)) (lputK AV.dead e d (.tup []) fun e => K ⟨e, l, g, w⟩ .no) False
def wRun (nt : Nat) (o : Oper) (e : List AV) (l : Ls) (g : Gs) (w : List Nat) (K : St → Fp → Prop) : Prop :=
  wOper P eqs orc call o (opd e) l g fun r => wPut nt o e w r K
def wStep (nt : Nat) (ops : Array Oper) (o : Oper) (s : St) (K : St → Fp → Prop) : Prop :=
  match s with
  | ⟨e, l, g, w⟩ =>
  match o.guard with
  | none => wRun P eqs orc call nt o e l g w K
  | some (j, b) =>
    match (ops[j]?).bind (·.dst) with
    | none => wSkip nt o e l g w K
    | some d =>
      match lget AV.dead e d with
      | .bool c => wIf c (lputK AV.dead e d (.bool true) fun e => match b with | true => wRun P eqs orc call nt o e l g w K | false => wSkip nt o e l g w K)
          (lputK AV.dead e d (.bool false) fun e => match b with | true => wSkip nt o e l g w K | false => wRun P eqs orc call nt o e l g w K)
      | .tup [] => wSkip nt o e l g w K
      | _ => False
theorem lput_id : ∀ (e : List AV) (d : Nat) (c : AV), lget AV.dead e d = c → c ≠ AV.dead → lput AV.dead e d c = e
  | [], d, c, h, hc => by cases d <;> exact (hc h.symm).elim
  | x :: l, 0, c, h, _ => by rw [lput]; rw [lget] at h; rw [h]
  | x :: l, d + 1, c, h, hc => by rw [lput, lput_id l d c h hc]
theorem wStep_sound {nt : Nat} {ops : Array Oper} {o : Oper} {s : St} {K : St → Fp → Prop} (h : wStep P eqs orc call nt ops o s K) : ∃ s' fp, stepA P eqs orc call nt ops o s = some (s', fp) ∧ K s' fp := by
  obtain ⟨e, l, g, w⟩ := s
  have hrun : wRun P eqs orc call nt o e l g w K → wantA ops e o = some true → ∃ s' fp, stepA P eqs orc call nt ops o ⟨e, l, g, w⟩ = some (s', fp) ∧ K s' fp := fun h hw => by
    obtain ⟨r, hr, h⟩ := wOper_sound P eqs orc call h
    obtain ⟨e', he, h⟩ := wPut_sound h
    exact ⟨_, _, by simp [stepA, hw, hr, he], h⟩
  have hskip : wSkip nt o e l g w K → wantA ops e o = some false → ∃ s' fp, stepA P eqs orc call nt ops o ⟨e, l, g, w⟩ = some (s', fp) ∧ K s' fp := fun h hw => by
    unfold wSkip at h
    cases hd : o.dst with
    | none =>
      simp only [hd] at h
      exact ⟨_, _, by simp [stepA, hw, putA, hd], h⟩
    | some d =>
      simp only [hd] at h
      obtain ⟨h1, h⟩ := wIf_must h
      rw [lputK_iff] at h
      exact ⟨_, _, by simp [stepA, hw, putA, hd, of_decide_eq_true h1], h⟩
  unfold wStep at h
  cases hg : o.guard with
  | none =>
    simp only [hg] at h
    exact hrun h (by simp [wantA, hg])
  | some jb =>
    obtain ⟨j, b⟩ := jb
    simp only [hg] at h
    cases hj : (ops[j]?).bind (·.dst) with
    | none =>
      simp only [hj] at h
      exact hskip h (by simp [wantA, hg, hj])
    | some d =>
      simp only [hj] at h
      split at h
      · rename_i c hc
        cases c with
        | true =>
          have h := (lputK_iff _ _ _ _ _).1 h
          rw [lput_id _ _ _ hc (by simp)] at h
          cases b with
          | true => exact hrun h (by simp [wantA, hg, hj, hc])
          | false => exact hskip h (by simp [wantA, hg, hj, hc])
        | false =>
          have h := (lputK_iff _ _ _ _ _).1 h
          rw [lput_id _ _ _ hc (by simp)] at h
          cases b with
          | true => exact hskip h (by simp [wantA, hg, hj, hc])
          | false => exact hrun h (by simp [wantA, hg, hj, hc])
      · rename_i hc
        exact hskip h (by simp [wantA, hg, hj, hc])
      · exact h.elim
def wOps (nt : Nat) (ops : Array Oper) : List Oper → St → (St → List Fp → Prop) → Prop
  | [], s, K => K s []
  | o :: l, s, K => wStep P eqs orc call nt ops o s fun s fp => wOps nt ops l s fun s fps => K s (fp :: fps)
theorem wOps_sound {nt : Nat} {ops : Array Oper} : ∀ {l : List Oper} {s : St} {K : St → List Fp → Prop}, wOps P eqs orc call nt ops l s K → ∃ s' fps, opsA (stepA P eqs orc call nt ops) l s = some (s', fps) ∧ K s' fps
  | [], _, _, h => ⟨_, _, rfl, h⟩
  | _ :: _, _, _, h => by
    obtain ⟨s1, fp, h1, h⟩ := wStep_sound P eqs orc call h
    obtain ⟨s2, fps, h2, h⟩ := wOps_sound h
    exact ⟨_, _, by simp [opsA, h1, h2], h⟩
def wOps0 (nt : Nat) (ops : Array Oper) : List Oper → St → (St → Prop) → Prop
  | [], s, K => K s
  | o :: l, s, K => wStep P eqs orc call nt ops o s fun s _ => wOps0 nt ops l s K
theorem wOps0_sound {nt : Nat} {ops : Array Oper} : ∀ {l : List Oper} {s : St} {K : St → Prop}, wOps0 P eqs orc call nt ops l s K → ∃ s' fps, opsA (stepA P eqs orc call nt ops) l s = some (s', fps) ∧ K s'
  | [], _, _, h => ⟨_, _, rfl, h⟩
  | _ :: _, _, _, h => by
    obtain ⟨s1, fp, h1, h⟩ := wStep_sound P eqs orc call h
    obtain ⟨s2, fps, h2, h⟩ := wOps0_sound h
    exact ⟨s2, fp :: fps, by simp [opsA, h1, h2], h⟩
def wCode (nt : Nat) : Code → St → (Ex → St → Prop) → Prop
  | .skip, s, K => K .norm s
  | .region _ ops draw, s, K =>
    match draw with
    | false => wOps0 P eqs orc call nt ops ops.toList s (K .norm)
    | true => wOps P eqs orc call nt ops ops.toList s fun s fps => lexA ops 0 ops.toList fps = true ∧ K .norm s
  | .seq a b, s, K => wCode nt a s fun x s => match x with | .norm => wCode nt b s K | .exit i => K (.exit i) s | .ret => K .ret s
  | .cond c a b, s, K => wOpt (opd s.e c) fun v => match v with | .bool t => wIf t (wCode nt a s K) (wCode nt b s K) | _ => False
  | .block id a, s, K => wCode nt a s fun x s => match x with | .exit j => wIf (decide (j = id)) (K .norm s) (K (.exit j) s) | .norm => K .norm s | .ret => K .ret s
  | .loop a, s, K => wOpt (loopA (codeA P eqs orc call rounds nt a) rounds s) fun p => K p.1 p.2
  | .exit id, s, K => K (.exit id) s
  | .ret, s, K => K .ret s
  | _, _, _ => False
theorem wCode_sound {nt : Nat} : ∀ (c : Code) {s : St} {K : Ex → St → Prop}, wCode P eqs orc call rounds nt c s K → ∃ x s', codeA P eqs orc call rounds nt c s = some (x, s') ∧ K x s'
  | .skip, _, _, h => ⟨_, _, by rw [codeA], h⟩
  | .region _ ops draw, s, K, h => by
    rw [codeA, regionA]
    cases draw with
    | false =>
      rw [wCode] at h
      obtain ⟨s', fps, h1, h⟩ := wOps0_sound P eqs orc call h
      exact ⟨_, _, by simp [h1], h⟩
    | true =>
      rw [wCode] at h
      obtain ⟨s', fps, h1, h2, h⟩ := wOps_sound P eqs orc call h
      exact ⟨_, _, by simp [h1, h2], h⟩
  | .seq a b, s, K, h => by
    rw [wCode] at h
    obtain ⟨x, s1, h1, h⟩ := wCode_sound a h
    cases x with
    | norm =>
      obtain ⟨y, s2, h2, h⟩ := wCode_sound b h
      exact ⟨_, _, by simp [codeA, h1, h2], h⟩
    | exit i => exact ⟨_, _, by simp [codeA, h1], h⟩
    | ret => exact ⟨_, _, by simp [codeA, h1], h⟩
  | .cond c a b, s, K, h => by
    rw [wCode] at h
    obtain ⟨v, hv, h⟩ := wOpt_elim h
    split at h
    · rename_i t
      cases t with
      | true =>
        obtain ⟨x, s1, h1, h⟩ := wCode_sound a h
        exact ⟨_, _, by simp [codeA, h1, hv], h⟩
      | false =>
        obtain ⟨x, s1, h1, h⟩ := wCode_sound b h
        exact ⟨_, _, by simp [codeA, h1, hv], h⟩
    · exact h.elim
  | .block id a, s, K, h => by
    rw [wCode] at h
    obtain ⟨x, s1, h1, h⟩ := wCode_sound a h
    cases x with
    | norm => exact ⟨_, _, by simp [codeA, h1], h⟩
    | exit j =>
      by_cases hj : j = id
      · simp only [hj, decide_true, wIf] at h
        exact ⟨_, _, by simp [codeA, h1, hj], h⟩
      · simp only [hj, decide_false, wIf] at h
        exact ⟨_, _, by simp [codeA, h1, hj], h⟩
    | ret => exact ⟨_, _, by simp [codeA, h1], h⟩
  | .loop a, s, K, h => by
    rw [wCode] at h
    obtain ⟨p, hp, h⟩ := wOpt_elim h
    exact ⟨_, _, by rw [codeA]; exact hp, h⟩
  | .exit id, _, _, h => ⟨_, _, by rw [codeA], h⟩
  | .ret, _, _, h => ⟨_, _, by rw [codeA], h⟩
def wBody (fn : Func) (args : List AV) (g : Gs) (K : AV → Gs → List Nat → Prop) : Prop :=
  wOpt fn.body fun c => wIf (decide (args.length ≤ fn.ntmps)) (fL fI (args ++ List.replicate (fn.ntmps - args.length) .dead) fun e =>
    wCode P eqs orc call rounds fn.ntmps c ⟨e, [], g, []⟩ fun x s =>
      match x with
      | .exit _ => False
      | .norm => wOpt (doneA P fn.results.toList g.length s) fun r => match r with | (v, g, w) => fV v fun v => fL fO g fun g => fL fI w fun w => K v g w
      | .ret => wOpt (doneA P fn.results.toList g.length s) fun r => match r with | (v, g, w) => fV v fun v => fL fO g fun g => fL fI w fun w => K v g w) False
theorem wBody_sound {fn : Func} {args : List AV} {g : Gs} {K : AV → Gs → List Nat → Prop} (h : wBody P eqs orc call rounds fn args g K) : ∃ v g' wr, bodyA P eqs orc call rounds fn args g = some (v, g', wr) ∧ K v g' wr := by
  unfold wBody at h
  obtain ⟨c, hc, h⟩ := wOpt_elim h
  obtain ⟨h1, h⟩ := wIf_must h
  rw [fL_iff fI_iff] at h
  obtain ⟨x, s, h2, h⟩ := wCode_sound P eqs orc call rounds c h
  unfold bodyA
  cases x with
  | exit i => exact h.elim
  | norm =>
    obtain ⟨⟨v, g', wr⟩, hr, h⟩ := wOpt_elim h
    replace h := (fV_iff _ _).1 h
    rw [fL_iff fO_iff, fL_iff fI_iff] at h
    exact ⟨_, _, _, by simp [hc, of_decide_eq_true h1, h2, hr], h⟩
  | ret =>
    obtain ⟨⟨v, g', wr⟩, hr, h⟩ := wOpt_elim h
    replace h := (fV_iff _ _).1 h
    rw [fL_iff fO_iff, fL_iff fI_iff] at h
    exact ⟨_, _, _, by simp [hc, of_decide_eq_true h1, h2, hr], h⟩
end
/-- A function's answer, by its body. -/
theorem aCall_of {P : Program} {eqs : TypeId → Option (List SK)} {orc : Nat → Option Orc} {rounds : Nat} {n f : Nat} {fn : Func} (hf : P.funcs[f]? = some fn) {args : List AV} {g : Gs} {r : AV × Gs × List Nat}
    (h : wBody P eqs orc (aCall P eqs orc rounds n) rounds fn args g fun v g' wr => (v, g', wr) = r) : aCall P eqs orc rounds (n + 1) f args g = some r := by
  obtain ⟨v, g', wr, h1, h2⟩ := wBody_sound P eqs orc _ rounds h
  rw [aCall, hf, Option.bind_some, h1, h2]
end Go.AE
