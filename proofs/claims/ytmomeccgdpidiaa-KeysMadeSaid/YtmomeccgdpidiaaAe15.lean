import Derived.Test.YtmomeccgdpidiaaAe14
/-! append. -/
namespace Go.AE
open Go.RowKit
section
variable {P : Program} {w : World} {l : Ls} {g : Gs} {bl bg : Bl}

theorem setCells_setRow {w : World} {b o : Nat} {cur : Array Value} {e : TypeId} (hb : blk w b cur e) {vs : List Value} (h1 : ∀ v ∈ vs, v.oneCell' = true) (hle : o + vs.length ≤ cur.size) :
    w.setCells b o vs = w.setRow b (cur.toList.take o ++ vs ++ cur.toList.drop (o + vs.length)).toArray := by
  have hc : ∀ j, j < vs.length → (w.cell? ⟨b, o + 0 + j, none⟩).isSome = true := fun j hj => by
    rw [cell_blk hb, Array.getElem?_eq_getElem (by omega)]; rfl
  have hf : ∀ j, j < vs.length → w.frozen? ⟨b, o + 0 + j, none⟩ = false := fun j hj => by
    unfold blk at hb
    simp [World.frozen?, hb]
  have e1 := run_storeCells_cells (P := (default : Program)) b o vs 0 w hc hf h1
  have e2 := run_storeCells_at (P := (default : Program)) b o e vs 0 cur w hb (by simpa using hle) h1
  rw [e1] at e2
  injection e2
theorem srcA_spec (h : SR w l g bl bg) {e ty : TypeId} {tx : TypeDesc} (hty : P.underlying ty = some tx) {x : AV} {ys : List AV} {fp : Fp} (hs : srcA P e tx x l g = some (ys, fp)) {u : Value} (hx : VR w (mkM w l g bl bg) x u) {k : Nat} (hk : ∀ y ∈ ys, y.good = true ∧ y.cells.length = k) (hsz : szP P e = some k) :
    ∃ news, Src P k ty u ys.length news w ∧ Flat w (mkM w l g bl bg) ys k news := by
  unfold srcA at hs
  split at hs
  · rename_i e'
    split at hs
    · rename_i he
      subst he
      obtain ⟨k', hlen, hat⟩ := rowOf_spec h hs hx
      rcases hat with ⟨rfl, rfl⟩ | ⟨b, o, cap, rfl, hcap, hra⟩
      · exact ⟨[], Src.ofNil w hty 0, ⟨by simp, by simp, by simp⟩⟩
      · have hra' : rowAt w (mkM w l g bl bg) ys k b o := by
          by_cases h0 : ys = []
          · subst h0
            intro i j x c hx
            simp at hx
          · obtain ⟨y, hy⟩ := List.exists_mem_of_ne_nil ys h0
            have : k' = k := by rw [← (hlen y hy).1, (hk y hy).2]
            rwa [this] at hra
        obtain ⟨us, hf, hc⟩ := flat_of (fun y hy => ⟨(hk y hy).2, good_known (hk y hy).1⟩) hra'
        exact ⟨us, Src.ofSlice w hty ⟨b, o, none⟩ ys.length cap us hf.len (fun j u hu => by rw [add_plain]; exact hc j u hu) hf.one, hf⟩
    · cases hs
  · split at hs
    · rename_i b he
      injection hs with hs
      injection hs with hs _
      subst hs
      obtain ⟨z, rfl, hz⟩ := hx.strI
      have hzl : z.size = b.length := by rw [← hz]; exact Array.length_toList.symm
      have hk1 : k = 1 ∨ b = [] := by
        cases b with
        | nil => exact .inr rfl
        | cons c b => exact .inl (by have := (hk (.int .u8 c.toNat) (by simp)).2; simpa [AV.cells] using this.symm)
      rcases hk1 with rfl | rfl
      · refine ⟨byteCells z, by rw [List.length_map, ← hzl]; exact Src.ofString w hty z, ⟨by rw [byteCells_length, List.length_map, hzl, Nat.mul_one], fun i j x c hx hc => ?_, (Src.ofString w hty z).one⟩⟩
        simp only [List.getElem?_map, Option.map_eq_some_iff] at hx
        obtain ⟨q, hq, rfl⟩ := hx
        have hj := getElem?_lt hc
        simp only [AV.cells, List.length_singleton] at hj
        have : j = 0 := by omega
        subst this
        simp only [AV.cells, List.getElem?_cons_zero, Option.some.injEq] at hc
        subst hc
        refine ⟨.int .u8 q.toNat, ?_, .int _ _⟩
        simp only [byteCells, Nat.mul_one, Nat.add_zero, List.getElem?_map, hz, hq]
        rfl
      · have hz0 : z = ByteArray.empty := by
          have : z.data = #[] := Array.eq_empty_of_size_eq_zero (by simpa using hzl)
          cases z
          simp_all
        subst hz0
        refine ⟨[], ⟨.inr hty, fun _ => rfl, ?_, ?_, by simp, by simp⟩, ⟨by simp, by simp, by simp⟩⟩
        · simp [Builtin.firstCells]
        · simp [Builtin.firstCells]
    · cases hs
  · cases hs
theorem blk_drew {b : Nat} {cs : Array Value} {e : TypeId} : blk w.drew b cs e ↔ blk w b cs e := Iff.rfl
theorem zeroCells_size (z : Array Value) (n : Nat) : (Builtin.zeroCells z n).size = n * z.size := by simp [Builtin.zeroCells]
/-- A row that grows into a new block. -/
theorem grow_flat {m : Mp} {xs : List AV} {k : Nat} {us : List Value} (h : Flat w m xs k us) (rest : Array Value) : ∀ (i j : Nat) (x c : AV), xs[i]? = some x → x.cells[j]? = some c → ∃ u, (us.toArray ++ rest)[i * k + j]? = some u ∧ VR w m c u := fun i j x c hx hc => by
  obtain ⟨u, hu, hr⟩ := h.val i j x c hx hc
  have := getElem?_lt hu
  exact ⟨u, by rw [Array.getElem?_append_left (by simpa using this)]; simpa using hu, hr⟩
theorem newL_does (h : SR w l g bl bg) {s : Sem Value} {cs : Array Value} {e : TypeId} {k n cap : Nat} {ys : List AV} (hrun : s.run P w = .ok (.slice (some ⟨w.heap.size, 0, none⟩) n cap) (w.drew.alloc (.cells cs e))) (hn : n = ys.length) (hcap : n ≤ cap) (hsz : cap * k ≤ cs.size)
    (hk : ∀ y ∈ ys, y.good = true ∧ y.cells.length = k) (hc : ∀ (i j : Nat) (x c : AV), ys[i]? = some x → x.cells[j]? = some c → ∃ u, cs[i * k + j]? = some u ∧ VR w (mkM w l g bl bg) c u) (d : Nat) (o : Ob) (ho : o = ⟨k, true, o.fz, o.ok, ys⟩) :
    Does P w l g bl bg s (.ls d ((lo l d).ver + 1) 0 n) (loPut l d (.ob ((lo l d).ver + 1) o)) g [] := by
  subst hn
  have s0 := Stp.drew h
  have ek : o.k = k := by rw [ho]
  have ex : o.xs = ys := by rw [ho]
  have s1 := Stp.new s0.sr d o cs e (fun x hx => by rw [ex] at hx; rw [ek]; exact ⟨(hk x hx).2, good_known (hk x hx).1⟩) (fun _ x hx => by rw [ex] at hx; exact (hk x hx).1) (by rw [ex, ek]; exact Nat.le_trans (Nat.mul_le_mul_right _ hcap) hsz)
    fun i j x c hx hcc => by rw [ex] at hx; obtain ⟨u, hu, hr⟩ := hc i j x c hx hcc; exact ⟨u, by rw [ek]; exact hu, hr.mono s0.le⟩
  refine ⟨_, _, _, _, hrun, by simpa using s0.trans s1, ?_⟩
  refine VR.lsNew l _ d o g _ bg w.heap.size _ _ cap (cs := cs) (e := e) ?_ (by rw [ek]; exact hsz) hcap (upd_same _ _ _)
  show (w.heap.push _)[w.heap.size]? = _
  simp
theorem appendA_does (h : SR w l g bl bg) {t ty rt : TypeId} {s x : AV} {dst : Option Nat} {r : R} (hr : appendA P t ty s x dst l g = some r) {us ux : Value} (hs : VR w (mkM w l g bl bg) s us) (hx : VR w (mkM w l g bl bg) x ux) :
    Does P w l g bl bg (Builtin.append_ #[t, ty] rt #[us, ux]) r.v r.l r.g r.wg := by
  unfold appendA at hr
  simp only [newL_eq] at hr
  split at hr
  · rename_i e tx ht hty
    simp only [Option.bind_eq_some_iff] at hr
    obtain ⟨k, hk, by_, hby, z, hz, hr⟩ := hr
    split at hr
    · cases hr
    · rename_i hzk
      simp only [Bool.not_eq_true', Bool.not_eq_false, Bool.and_eq_true, beq_iff_eq] at hzk
      obtain ⟨i, zu, hi, hiz, hzr⟩ := VR.aggOfZ (w := w) (m := mkM w l g bl bg) hz
      have hisz : i.size = k := by
        obtain ⟨i', hi', e'⟩ := szP_size hk
        rw [hi] at hi'
        injection hi' with hi'
        rw [hi']; exact e'
      have hib : i.bytes = by_ := by
        obtain ⟨i', hi', e'⟩ := run_byP hby
        rw [hi] at hi'
        injection hi' with hi'
        rw [hi']; exact e'
      have hzs : zu.cells.size = k := by rw [(hzr.cells hzk.1).1]; exact hzk.2
      simp only [Option.bind_eq_some_iff] at hr
      obtain ⟨⟨ys, fp⟩, hsrc, hr⟩ := hr
      split at hr
      · rename_i hall
        have hys : ∀ y ∈ ys, y.good = true ∧ y.cells.length = k := fun y hy => by
          have := List.all_eq_true.1 hall y hy
          simpa using this
        obtain ⟨news, hS, hF⟩ := srcA_spec (P := P) h hty (show srcA P e tx x l g = some (ys, fp) from hsrc) hx hys hk
        subst hisz
        -- growing
        have grow : ∀ (base : Option Addr) (sLen sCap : Nat) (xs : List AV) (olds : List Value), us = .slice base sLen sCap → xs.length = sLen → (Builtin.firstCells i.size sLen (.slice base sLen sCap)).run P w.drew = .ok olds.toArray w.drew → Flat w (mkM w l g bl bg) xs i.size olds →
            (∀ y ∈ xs, y.good = true ∧ y.cells.length = i.size) → sCap < sLen + ys.length → (sLen + ys.length) * by_ ≤ 140737488355328 → sLen + ys.length ≤ 9223372036854775807 →
            ∃ cs cap, (Builtin.append_ #[t, ty] rt #[us, ux]).run P w = .ok (.slice (some ⟨w.heap.size, 0, none⟩) (sLen + ys.length) cap) (w.drew.alloc (.cells cs e)) ∧ sLen + ys.length ≤ cap ∧ cap * i.size ≤ cs.size ∧
              ∀ (p q : Nat) (x c : AV), (xs ++ ys)[p]? = some x → x.cells[q]? = some c → ∃ u, cs[p * i.size + q]? = some u ∧ VR w (mkM w l g bl bg) c u := fun base sLen sCap xs olds hus hxl hfc hfo hgood hg hb h63 => by
          have hrun := run_append_grow_src (P := P) w t ty rt e i zu ht hi hiz base sLen sCap olds hfc ux ys.length news hS hg (by omega) (growslice_fits hg (by rw [hib]; exact hb))
          have hcap := grownCap_ge w (sLen + ys.length) sCap e
          rw [← hus] at hrun
          refine ⟨_, _, hrun, hcap, ?_, ?_⟩
          · simp only [Array.size_append, List.size_toArray, List.length_append, hfo.len, hF.len, zeroCells_size, hzs, hxl]
            rw [← Nat.add_mul, ← Nat.add_mul]
            exact Nat.mul_le_mul_right _ (by omega)
          · exact grow_flat (hfo.append hF fun y hy => (hgood y hy).2) _
        have grow0 : ∀ (base : Option Addr), us = .slice base 0 0 → ys ≠ [] → ys.length * by_ ≤ 140737488355328 → ys.length ≤ 9223372036854775807 → ∀ d : Nat, Does P w l g bl bg (Builtin.append_ #[t, ty] rt #[us, ux]) (.ls d ((lo l d).ver + 1) 0 ys.length) (loPut l d (.ob ((lo l d).ver + 1) ⟨i.size, true, false, true, ys⟩)) g [] := fun base hus hne hb h63 d => by
          have hpos : 0 < ys.length := List.length_pos_iff.2 hne
          have hfc : (Builtin.firstCells i.size 0 (.slice base 0 0)).run P w.drew = .ok ([] : List Value).toArray w.drew := by
            cases base with
            | none => rfl
            | some a => simp [Builtin.firstCells, loadCells, loadCellsFrom]
          obtain ⟨cs, cap, g1, g2, g3, g4⟩ := grow base 0 0 [] [] hus rfl hfc ⟨by simp, by simp, by simp⟩ (by simp) (by omega) (by simpa using hb) (by omega)
          simp only [Nat.zero_add, List.nil_append] at g1 g2 g4
          exact newL_does h g1 rfl g2 g3 hys g4 d _ rfl
        -- a row that lies in a block
        have room : ∀ (b : Nat) (cs0 : Array Value) (e' : TypeId) (xs : List AV) (cap : Nat), us = .slice (some ⟨b, 0, none⟩) xs.length cap → blk w b cs0 e' → cap * i.size ≤ cs0.size → xs.length + ys.length ≤ cap →
            (∀ (p q : Nat) (x c : AV), xs[p]? = some x → x.cells[q]? = some c → ∃ u, cs0[p * i.size + q]? = some u ∧ VR w (mkM w l g bl bg) c u) → (∀ x ∈ xs, x.cells.length = i.size) →
            ∃ cs, (Builtin.append_ #[t, ty] rt #[us, ux]).run P w = .ok (.slice (some ⟨b, 0, none⟩) (xs.length + ys.length) cap) (w.setRow b cs) ∧ cs.size = cs0.size ∧ (∀ p, p < xs.length * i.size → cs[p]? = cs0[p]?) ∧
              ∀ (p q : Nat) (x c : AV), (xs ++ ys)[p]? = some x → x.cells[q]? = some c → ∃ u, cs[p * i.size + q]? = some u ∧ VR w (mkM w l g bl bg) c u := fun b cs0 e' xs cap hus hb hcap hle hc hlen => by
          have hfit : xs.length * i.size + news.length ≤ cs0.size := by
            rw [hF.len, ← Nat.add_mul]
            exact Nat.le_trans (Nat.mul_le_mul_right _ hle) hcap
          have hrun := run_append_room_src (P := P) w t ty rt e i ht hi b 0 xs.length cap ux ys.length news hS hle
            (fun j hj => by rw [Nat.zero_add, cell_blk hb, Array.getElem?_eq_getElem (by omega)]; rfl)
            (fun j hj => by unfold blk at hb; simp [World.frozen?, hb])
          rw [← hus, Nat.zero_add, setCells_setRow hb hF.one hfit] at hrun
          have hget := mid_get (cur := cs0.toList) (vs := news) (off := xs.length * i.size) (by simpa using hfit)
          refine ⟨_, hrun, mid_size (by simpa using hfit), fun p hp => ?_, fun p q x c hx hcc => ?_⟩
          · rw [hget, if_neg (by omega)]
            simp
          · rw [hget]
            by_cases hp : p < xs.length
            · rw [List.getElem?_append_left hp] at hx
              have hq := getElem?_lt hcc
              rw [hlen x (List.mem_of_getElem? hx)] at hq
              have := idx_lt hp hq
              rw [if_neg (by omega)]
              obtain ⟨u, hu, hr'⟩ := hc p q x c hx hcc
              exact ⟨u, by simpa using hu, hr'⟩
            · rw [List.getElem?_append_right (by omega)] at hx
              obtain ⟨u, hu, hr'⟩ := hF.val _ q x c hx hcc
              have hlt := getElem?_lt hu
              have hge : xs.length * i.size ≤ p * i.size := Nat.mul_le_mul_right _ (by omega)
              rw [Nat.sub_mul] at hu hlt
              refine ⟨u, ?_, hr'⟩
              rw [if_pos (by omega), ← hu]
              congr 1
              omega
        have nochange : r.l = l → r.g = g → r.wg = [] → ∀ base, us = .slice base 0 0 → ys = [] → VR w (mkM w l g bl bg) r.v us → Does P w l g bl bg (Builtin.append_ #[t, ty] rt #[us, ux]) r.v r.l r.g r.wg := fun e1 e2 e3 base hus hy hv => by
          subst hy
          rw [e1, e2, e3]
          refine Does.ofRun h ⟨us, ?_, hv⟩
          have hS' := hS
          simp only [List.length_nil] at hS'
          have hn0 : news = [] := by have := hF.len; simp at this; exact this
          subst hn0
          subst hus
          rcases hS'.kind with ⟨e', hk'⟩ | hk' <;> cases base <;> simp [Builtin.append_, run_underlying ht, run_underlying hk', run_szP hk, hS'.len, hS'.cells, storeCells]
        split at hr
        · -- nil
          split at hr
          · rename_i he
            injection hr with hr
            subst hr
            have hy0 : ys = [] := by simpa using he
            cases hs
            exact nochange rfl rfl rfl none rfl hy0 .nils
          · rename_i he
            simp only [Option.bind_eq_some_iff] at hr
            obtain ⟨d, hd, hr⟩ := hr
            split at hr
            · rename_i hc
              injection hr with hr
              subst hr
              cases hs
              exact grow0 none rfl (by simpa using he) hc.1 hc.2 d
            · cases hr
        · rename_i k' xs
          split at hr
          · rename_i hc0
            obtain ⟨rfl, hxs⟩ := hc0
            have hx0 : xs = [] := by simpa using hxs
            subst hx0
            have hus : ∃ base, us = .slice base 0 0 := by
              cases hs with
              | sl _ _ _ b o cap cv c1 c2 c3 c4 c5 c6 =>
              have := c2 rfl
              simp only [List.length_nil] at this
              subst this
              exact ⟨_, rfl⟩
            obtain ⟨base, hus⟩ := hus
            split at hr
            · rename_i he
              injection hr with hr
              subst hr
              exact nochange rfl rfl rfl base hus (by simpa using he) hs
            · rename_i he
              simp only [Option.bind_eq_some_iff] at hr
              obtain ⟨d, hd, hr⟩ := hr
              split at hr
              · rename_i hc
                injection hr with hr
                subst hr
                exact grow0 base hus (by simpa using he) hc.1 hc.2 d
              · cases hr
          · cases hr
        · rename_i d ver i' n
          split at hr
          · rename_i w' o hlo
            split at hr
            · rename_i hc
              obtain ⟨rfl, harr, hok, rfl, rfl, hok2, hb1, hb2⟩ := hc
              injection hr with hr
              subst hr
              have hob := h.ol d w' o hlo
              obtain ⟨cs0, e', hblk, hsz0, hcell⟩ := hob.mem
              rw [← hok2] at hsz0 hcell
              cases hs with
              | ls _ _ _ _ ad cap c0 c1 c2 =>
              obtain ⟨rfl, cs1, e1, hb', hcap⟩ := c2 (by simp [mkM, hlo, LO.ver]) (bl d) o.k (by simp [mkM, hlo])
              have hcs : cs1 = cs0 := by
                unfold blk at hblk hb'
                rw [hblk] at hb'
                injection hb' with hb'
                injection hb' with e1 e2
                exact e1.symm
              subst hcs
              rw [Nat.zero_mul, Nat.zero_add, ← hok2] at hcap
              have hgood : ∀ y ∈ o.xs, y.good = true ∧ y.cells.length = i.size := fun y hy => ⟨hob.ok hok y hy, by rw [hok2]; exact (hob.len y hy).1⟩
              rcases Nat.lt_or_ge cap (o.xs.length + ys.length) with hg | hg
              · have hra : rowAt w (mkM w l g bl bg) o.xs i.size (bl d) 0 := fun p q x c hx hc => by
                  obtain ⟨u, hu, hr'⟩ := hcell p q x c hx hc
                  exact ⟨u, by rw [cell_blk hblk, Nat.zero_add]; exact hu, hr'⟩
                obtain ⟨olds, hfo, hco⟩ := flat_of (fun y hy => ⟨(hgood y hy).2, good_known (hgood y hy).1⟩) hra
                have hfc := run_firstCells_some (P := P) w.drew i.size o.xs.length ⟨bl d, 0 * o.k, none⟩ o.xs.length cap olds hfo.len fun j v hv => by
                  rw [add_plain, Nat.zero_mul]
                  exact hco j v hv
                obtain ⟨cs, cap', g1, g2, g3, g4⟩ := grow _ o.xs.length cap o.xs olds rfl rfl hfc hfo hgood hg hb1 hb2
                have := newL_does (P := P) h (ys := o.xs ++ ys) g1 (by simp) g2 g3 (fun y hy => (List.mem_append.1 hy).elim (hgood y) (hys y)) g4 d { o with xs := o.xs ++ ys } (by simp only [hok2]; rw [← harr])
                rw [hlo] at this
                exact this
              · obtain ⟨cs, r1, r2, r3, r4⟩ := room (bl d) cs1 e' o.xs cap (by rw [Nat.zero_mul]) hblk hcap hg hcell fun x hx => (hgood x hx).2
                have hall : ∀ x ∈ o.xs ++ ys, x.cells.length = o.k ∧ x.good = true := fun x hx => (List.mem_append.1 hx).elim (fun hx => ⟨by rw [← hok2]; exact (hgood x hx).2, (hgood x hx).1⟩) fun hx => ⟨by rw [← hok2]; exact (hys x hx).2, (hys x hx).1⟩
                have hst := Stp.growL h hlo { o with xs := o.xs ++ ys } rfl rfl (by simp) cs1 cs e' hblk r2 (by rw [← hok2]; exact r3)
                  (by rw [r2, ← hok2]; simp only [List.length_append]; exact Nat.le_trans (Nat.mul_le_mul_right _ hg) hcap) (fun x hx => ⟨(hall x hx).1, good_known (hall x hx).2⟩) (fun _ x hx => (hall x hx).2) (by rw [← hok2]; exact r4)
                refine ⟨_, _, _, _, by rw [← r1, Nat.zero_mul], hst, ?_⟩
                exact VR.lsNew l _ d _ g bl bg (bl d) _ _ cap (cs := cs) (e := e') (setRow_heap w _ cs1 cs e' _ hblk) (by rw [r2, ← hok2]; exact hcap) hg rfl
            · cases hr
          · cases hr
        · rename_i rr i' n
          simp only [Option.bind_eq_some_iff] at hr
          obtain ⟨o, ho, hr⟩ := hr
          split at hr
          · rename_i hc
            obtain ⟨harr, rfl, rfl, hok2, hb1, hb2⟩ := hc
            injection hr with hr
            subst hr
            obtain ⟨hob, hG⟩ := h.og rr o ho
            obtain ⟨cs0, e', hblk, hsz0, hcell⟩ := hob.mem
            rw [← hok2] at hsz0 hcell
            cases hs with
            | gs _ _ _ k xs b0 b of cap cv g1 g2 g3 g4 g5 g6 g7 =>
            have hga := g1
            simp only [mkM, ho, harr, if_true, Option.some.injEq, Prod.mk.injEq] at hga
            obtain ⟨hk3, hxs3, hb3⟩ := hga
            subst hxs3 hb3
            obtain ⟨rfl, rfl, cs1, e1, hb', hcap⟩ := g7 rfl rfl
            have hcs : cs1 = cs0 := by
              unfold blk at hblk hb'
              rw [hblk] at hb'
              injection hb' with hb'
              injection hb' with e1 e2
              exact e1.symm
            subst hcs
            rw [← hk3, ← hok2] at hcap
            have hgood : ∀ y ∈ o.xs, y.good = true ∧ y.cells.length = i.size := fun y hy => ⟨hob.ok (hG.ok harr) y hy, by rw [hok2]; exact (hob.len y hy).1⟩
            have hys' : ∀ x ∈ ys, x.cells.length = o.k ∧ x.good = true := fun x hx => ⟨by rw [← hok2]; exact (hys x hx).2, (hys x hx).1⟩
            rcases Nat.lt_or_ge cap (o.xs.length + ys.length) with hg | hg
            · have hra : rowAt w (mkM w l g bl bg) o.xs i.size (bg rr) 0 := fun p q x c hx hc => by
                obtain ⟨u, hu, hr'⟩ := hcell p q x c hx hc
                exact ⟨u, by rw [cell_blk hblk, Nat.zero_add]; exact hu, hr'⟩
              obtain ⟨olds, hfo, hco⟩ := flat_of (fun y hy => ⟨(hgood y hy).2, good_known (hgood y hy).1⟩) hra
              have hfc := run_firstCells_some (P := P) w.drew i.size o.xs.length ⟨bg rr, 0, none⟩ o.xs.length cap olds hfo.len fun j v hv => by
                rw [add_plain]
                exact hco j v hv
              obtain ⟨cs, cap', q1, q2, q3, q4⟩ := grow _ o.xs.length cap o.xs olds rfl rfl hfc hfo hgood hg hb1 hb2
              have hne : ys ≠ [] := fun e => by subst e; simp at hg; omega
              have s0 := Stp.drew h
              have s1 := Stp.moveG s0.sr ho harr ys hne cs e (by rw [← hok2]; simp only [List.length_append]; exact Nat.le_trans (Nat.mul_le_mul_right _ q2) q3) hys' (by rw [← hok2]; intro p q x c hx hc; obtain ⟨u, hu, hr'⟩ := q4 p q x c hx hc; exact ⟨u, hu, hr'.mono s0.le⟩)
              refine ⟨_, _, _, _, q1, by simpa using s0.trans s1, ?_⟩
              have := VR.gsWhole s1.sr (r := rr) (o := { o with xs := o.xs ++ ys }) (by simp [getElem?_lt ho]) harr (cs := cs) (e := e) (cap := cap') (by rw [upd_same]; show (w.heap.push _)[w.heap.size]? = _; simp) (by rw [← hok2]; exact q3) (by simpa using q2)
              rw [upd_same] at this
              simpa using this
            · obtain ⟨cs, r1, r2, r3, r4⟩ := room (bg rr) cs1 e' o.xs cap rfl hblk hcap hg hcell fun x hx => (hgood x hx).2
              have hst := Stp.growG h ho harr ys cs1 cs e' hblk r2 (by rw [← hok2]; exact r3) (by rw [r2, ← hok2]; simp only [List.length_append]; exact Nat.le_trans (Nat.mul_le_mul_right _ hg) hcap) hys' (by rw [← hok2]; exact r4)
              refine ⟨_, _, _, _, r1, hst, ?_⟩
              have := VR.gsWhole hst.sr (r := rr) (o := { o with xs := o.xs ++ ys }) (by simp [getElem?_lt ho]) harr (cs := cs) (e := e') (cap := cap) (setRow_heap w _ cs1 cs e' _ hblk) (by rw [r2, ← hok2]; exact hcap) (by simpa using hg)
              simpa using this
          · cases hr
        · cases hr
      · cases hr
  · cases hr
end
end Go.AE
