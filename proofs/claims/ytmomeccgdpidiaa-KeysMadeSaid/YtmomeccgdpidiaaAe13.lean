import Derived.Test.YtmomeccgdpidiaaAe12
/-! Operations on memory: alloc, buildSlice, makeSlice, store, append. -/
namespace Go.AE
open Go.RowKit
section
variable {P : Program} {w : World} {l : Ls} {g : Gs} {bl bg : Bl}

theorem alloc_does (h : SR w l g bl bg) {t : TypeId} {z : AV} (hz : zeroP P t = some z) (hk : z.known = true) (d : Nat) :
    Does P w l g bl bg (Instr.alloc t true (.tuple #[])) (.lp d ((lo l d).ver + 1) 0 0) (loPut l d (.ob ((lo l d).ver + 1) ⟨z.cells.length, false, false, false, [z]⟩)) g [] := by
  obtain ⟨u, hu, hz'⟩ := run_zeroP hz w
  obtain ⟨u', w', bl', bg', h1, h2, h3⟩ := newVar_does (P := P) h t hk (ofValue_VR hz') d
  refine ⟨u', w', bl', bg', ?_, h2, h3⟩
  rw [← h1]
  simp [Instr.alloc, hu]
theorem buildSlice_does (h : SR w l g bl bg) {t e : TypeId} (ht : P.underlying t = some (.slice e)) {z : AV} {k n : Nat} (hz : zeroP P e = some z) (hs : szP P e = some k) (hk : z.known = true) (hl : z.cells.length = k) (h0 : 0 < k) (hb : n * k ≤ 16777216)
    {ps : List (Nat × AV)} {us : Array (Nat × Value)} (hp : PsR w (mkM w l g bl bg) ps us.toList) {xs : List AV} (hx : fillS k ps (List.replicate n z) = some xs) (d : Nat) :
    Does P w l g bl bg (Instr.buildSlice t n us) (.ls d ((lo l d).ver + 1) 0 n) (loPut l d (.ob ((lo l d).ver + 1) ⟨k, true, false, xs.all AV.good, xs⟩)) g [] := by
  obtain ⟨u, hu, hz'⟩ := run_zeroP hz w
  obtain ⟨vs, hf, hr, hlen⟩ := fillS_run hx hp (zeros_RsR (ofValue_VR hz') hk hl h0 n)
  simp only [List.length_replicate] at hlen
  obtain ⟨u', w', bl', bg', h1, h2, h3⟩ := newSlice_does (P := P) h e hr n n (by omega) hlen d (xs.all AV.good) (by simp)
  rw [show xs.take n = xs by rw [List.take_of_length_le (by omega)]] at h2 h3
  refine ⟨u', w', bl', bg', ?_, h2, h3⟩
  rw [← h1]
  have hnb : ¬ (n * k > 2 ^ 24) := by simpa using hb
  by_cases hn0 : n * k = 0
  · have he : ∀ f : Nat → Value, (Array.range (n * k)).map f = #[] := fun f => Array.eq_empty_of_size_eq_zero (by simp [hn0])
    rw [he] at hf
    simp only [Instr.buildSlice, run_underlying ht, run_szP hs, Sem.run_bind, Result.andThen_ok, if_neg hnb, if_pos hn0, Sem.run_pure, he, hf, run_newRow]
  · simp [Instr.buildSlice, run_underlying ht, run_szP hs, hnb, hn0, hu, hf, run_newRow]
set_option maxRecDepth 4000 in
theorem i64_wrap {n : Nat} (h : n ≤ 9223372036854775807) : IntKind.i64.wrap (n : Int) = n := wrap_small _ (by omega) (by omega)
attribute [local irreducible] IntKind.wrap in
theorem makeSlice_does (h : SR w l g bl bg) {t e : TypeId} (ht : P.underlying t = some (.slice e)) {z : AV} {k by_ n c : Nat} (hz : zeroP P e = some z) (hs : szP P e = some k) (hby : byP P e = some by_) (hk : z.known = true) (hg : z.good = true) (hl : z.cells.length = k) (h0 : 0 < k)
    (hnc : n ≤ c) (hb : by_ * c ≤ 281474976710656) (hc : c ≤ 9223372036854775807) {un uc : Value} {nv cv : AV} (hn1 : natOf nv = some n) (hn2 : VR w (mkM w l g bl bg) nv un) (hc1 : natOf cv = some c) (hc2 : VR w (mkM w l g bl bg) cv uc) (d : Nat) :
    Does P w l g bl bg (Instr.makeSlice t un uc) (.ls d ((lo l d).ver + 1) 0 n) (loPut l d (.ob ((lo l d).ver + 1) ⟨k, true, false, true, List.replicate n z⟩)) g [] := by
  obtain ⟨u, hu, hz'⟩ := run_zeroP hz w
  obtain ⟨i, hi, hib⟩ := run_byP hby
  obtain ⟨kn, rfl⟩ := natOf_VR hn1 hn2
  obtain ⟨kc, rfl⟩ := natOf_VR hc1 hc2
  have hzr := zeros_RsR (ofValue_VR (w := w) (m := mkM w l g bl bg) hz') hk hl h0 c
  obtain ⟨u', w', bl', bg', h1, h2, h3⟩ := newSlice_does (P := P) h e hzr n c (by simpa using hnc) (by simp) d true (fun _ x hx => by rw [List.mem_replicate] at hx; rw [hx.2]; exact hg)
  rw [show (List.replicate c z).take n = List.replicate n z by rw [List.take_replicate]; congr 1; omega] at h2 h3
  refine ⟨u', w', bl', bg', ?_, h2, h3⟩
  rw [← h1]
  have e1 := i64_wrap (n := n) (by omega)
  have e2 := i64_wrap (n := c) hc
  have hbb : ¬ (281474976710656 < (by_ : Int) * (c : Int)) := by
    rw [← Int.natCast_mul]
    generalize by_ * c = q at hb ⊢
    omega
  have hcn : ¬ ((c : Int) < (n : Int)) := by omega
  have hcn' : ¬ (c < n) := by omega
  have hp1 : ¬ ((c : Int) < 0) := by omega
  have hp2 : ¬ ((n : Int) < 0) := by omega
  have he' : ∀ f : Nat → Value, (Array.range 0).map f = #[] := fun f => Array.eq_empty_of_size_eq_zero (by simp)
  by_cases hn0 : c * k = 0
  · have he : ∀ f : Nat → Value, (Array.range (c * k)).map f = #[] := fun f => Array.eq_empty_of_size_eq_zero (by simp [hn0])
    rw [he]
    simp [Instr.makeSlice, run_underlying ht, asInt, asIntOf, typeInfo, hi, hib, e1, e2, hbb, hcn, hcn', hp1, hp2, run_szP hs, hn0, he', run_newRow]
  · simp [Instr.makeSlice, run_underlying ht, asInt, asIntOf, typeInfo, hi, hib, e1, e2, hbb, hcn, hcn', hp1, hp2, run_szP hs, hn0, hu, run_newRow]
end
end Go.AE
