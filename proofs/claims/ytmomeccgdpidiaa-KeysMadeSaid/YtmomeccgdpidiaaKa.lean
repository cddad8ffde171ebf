import Derived.Test.YtmomeccgdpidiaaProg
import Derived.Test.YtmomeccgdpidiaaAe35
/-! Keys: what the small functions answer. -/
namespace Go.Proofs.Ytmomeccgdpidiaa
open Go Go.AE
set_option maxRecDepth 100000
theorem wrapU (n : Int) : IntKind.u64.wrap n = n % 18446744073709551616 := by simp [IntKind.wrap, IntKind.bits, IntKind.signed]
theorem wrapI (n : Int) : IntKind.i64.wrap n = (n + 9223372036854775808) % 18446744073709551616 - 9223372036854775808 := by
  simp only [IntKind.wrap, IntKind.bits, IntKind.signed, Bool.true_and]
  split <;> rename_i h <;> simp only [decide_eq_true_eq, ge_iff_le] at h <;> omega
theorem wrapU_small {n : Int} (h0 : 0 ≤ n) (h1 : n < 18446744073709551616) : IntKind.u64.wrap n = n := by rw [wrapU]; omega
theorem wrapI_small {n : Int} (h0 : -9223372036854775808 ≤ n) (h1 : n ≤ 9223372036854775807) : IntKind.i64.wrap n = n := by rw [wrapI]; omega
theorem orU (a b : Int) (ha : 0 ≤ a) (hb : 0 ≤ b) (ha' : a < 4294967296) (hb' : b < 4294967296) :
    ((BitVec.ofInt 64 (a * 4294967296) ||| BitVec.ofInt 64 b).toNat : Int) = a * 4294967296 + b := by
  obtain ⟨m, rfl⟩ := Int.eq_ofNat_of_zero_le ha
  obtain ⟨k, rfl⟩ := Int.eq_ofNat_of_zero_le hb
  have e : ((m : Int) * 4294967296) = ((m * 4294967296 : Nat) : Int) := by simp
  rw [e, BitVec.ofInt_natCast, BitVec.ofInt_natCast, BitVec.toNat_or, BitVec.toNat_ofNat, BitVec.toNat_ofNat, Nat.mod_eq_of_lt (by omega), Nat.mod_eq_of_lt (by omega)]
  have := Nat.two_pow_add_eq_or_of_lt (i := 32) (b := k) (by omega) m
  rw [show m * 4294967296 = 2 ^ 32 * m by omega, ← this]
  omega
def keyF (a b : Int) : Int := if 0 ≤ a ∧ 0 ≤ b ∧ a < 4294967296 ∧ b < 4294967296 then a * 4294967296 + b else 0
variable {eqs : TypeId → Option (List SK)} {orc : Nat → Option Orc} {rounds n : Nat}
theorem stamp_spec (a : Int) : aCall Try.prog eqs orc rounds (n + 1) 30 [.int .u64 a] [] = some (.int .i64 (IntKind.wrap .i64 (a / 4294967296)), [], []) := by
  refine aCall_of Try.func30 ?_
  conv => whnf
  rw [Int.fdiv_eq_ediv_of_nonneg _ (by decide), show ((2 : Int) ^ min (Int.toNat 32) IntKind.u64.bits) = 4294967296 by decide]
theorem key_spec (a b : Int) : aCall Try.prog eqs orc rounds (n + 1) 29 [.int .i64 a, .int .i64 b] [] = some (.int .u64 (keyF a b), [], []) := by
  refine aCall_of Try.func29 ?_
  conv => whnf
  refine wIf_intro (fun h1 => ?_) (fun h1 => ?_)
  · conv => whnf
    rw [keyF, if_neg (by simp at h1; omega)]
  · simp only [decide_eq_false_iff_not, Int.not_lt] at h1
    conv => whnf
    refine wIf_intro (fun h2 => ?_) (fun h2 => ?_)
    · conv => whnf
      rw [keyF, if_neg (by simp at h2; omega)]
    · simp only [decide_eq_false_iff_not, Int.not_lt] at h2
      conv => whnf
      have e : ((if true = true then if b > a then b else a else if b < a then b else a).fdiv (2 ^ min (Int.toNat 32) IntKind.i64.bits) != 0) = decide (¬ (a < 4294967296 ∧ b < 4294967296)) := by
        have : (if true = true then if b > a then b else a else if b < a then b else a).fdiv (2 ^ min (Int.toNat 32) IntKind.i64.bits) = (max a b) / 4294967296 := by
          rw [Int.fdiv_eq_ediv_of_nonneg _ (by decide)]
          simp only [if_true]
          rw [show ((2 : Int) ^ min (Int.toNat 32) IntKind.i64.bits) = 4294967296 by decide]
          congr 1
          omega
        rw [this, Bool.eq_iff_iff]
        simp only [bne_iff_ne, ne_eq, decide_eq_true_eq]
        omega
      refine wIf_intro (fun h3 => ?_) (fun h3 => ?_)
      · rw [e] at h3
        simp only [decide_eq_true_eq] at h3
        conv => whnf
        rw [keyF, if_neg (by omega)]
      · rw [e] at h3
        simp only [decide_eq_false_iff_not, Decidable.not_not] at h3
        conv => whnf
        rw [keyF, if_pos ⟨h1, h2, h3⟩, wrapU_small (n := a) h1 (by omega), wrapU_small (n := b) h2 (by omega)]
        rw [show ((2 : Int) ^ min (Int.toNat 32) IntKind.u64.bits) = 4294967296 by decide, wrapU_small (n := a * 4294967296) (by omega) (by omega), show IntKind.u64.bits = 64 from rfl, orU a b h1 h2 h3.1 h3.2, wrapU_small (by omega) (by omega)]
theorem made_of (a b : Int) (h28 : aCall Try.prog eqs (fun _ => none) rounds (n + 1) 28 [] [] = some (.bool true, [], [])) :
    aCall Try.prog eqs (fun _ => none) rounds (n + 2) 4 [.int .i64 a, .int .i64 b] [] = some (.bool true, [], []) := by
  refine aCall_of Try.func4 ?_
  have h29 := key_spec (eqs := eqs) (orc := fun _ => none) (rounds := rounds) (n := n) a b
  have h30 := stamp_spec (eqs := eqs) (orc := fun _ => none) (rounds := rounds) (n := n) (keyF a b)
  generalize aCall Try.prog eqs (fun _ => none) rounds (n + 1) = call at h28 h29 h30 ⊢
  conv => whnf
  refine wOpt_intro h28 ?_
  conv => whnf
  refine wOpt_intro h29 ?_
  conv => whnf
  have bad : ∀ {p : Prop}, ¬ (0 ≤ a ∧ 0 ≤ b ∧ a < 4294967296 ∧ b < 4294967296) → keyF a b = 0 := fun h => if_neg h
  refine wIf_intro (fun h1 => ?_) (fun h1 => ?_) <;> simp only [decide_eq_true_eq, decide_eq_false_iff_not, Int.not_lt] at h1 <;> conv => whnf
  · rw [bad (p := True) (by omega)]; rfl
  refine wIf_intro (fun h2 => ?_) (fun h2 => ?_) <;> simp only [decide_eq_true_eq, decide_eq_false_iff_not, Int.not_lt, gt_iff_lt] at h2 <;> conv => whnf
  · rw [bad (p := True) (by omega)]; rfl
  refine wIf_intro (fun h3 => ?_) (fun h3 => ?_) <;> simp only [decide_eq_true_eq, decide_eq_false_iff_not, Int.not_lt] at h3 <;> conv => whnf
  · rw [bad (p := True) (by omega)]; rfl
  refine wIf_intro (fun h4 => ?_) (fun h4 => ?_) <;> simp only [decide_eq_true_eq, decide_eq_false_iff_not, Int.not_lt, gt_iff_lt] at h4 <;> conv => whnf
  · rw [bad (p := True) (by omega)]; rfl
  have hk : keyF a b = a * 4294967296 + b := if_pos ⟨h1, h3, by omega, by omega⟩
  have e1 : (keyF a b == IntKind.u64.wrap (IntKind.u64.wrap (IntKind.u64.wrap a * 4294967296) + IntKind.u64.wrap b)) = true := by
    rw [hk, wrapU_small (n := a) h1 (by omega), wrapU_small (n := b) h3 (by omega), wrapU_small (n := a * 4294967296) (by omega) (by omega), wrapU_small (by omega) (by omega)]
    simp
  refine wIf_t e1 ?_
  conv => whnf
  refine wOpt_intro h30 ?_
  conv => whnf
  have e2 : (IntKind.i64.wrap (keyF a b / 4294967296) == a) = true := by
    rw [hk, wrapI_small (by omega) (by omega)]
    simp only [beq_iff_eq]
    omega
  rw [e2]
end Go.Proofs.Ytmomeccgdpidiaa
