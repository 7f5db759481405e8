/- Plain facts: the rank that a part of a count gives. -/
import Derived.Test.YtofjgnlolmaidaaGm
import Derived.Test.YtofjgnlolmaidaaGj
namespace Go.Proofs.Ytofjgnlolmaidaa
set_option linter.unusedVariables false
open Go.RowKit

theorem rep (a e : Nat) (ha : a < 9007199254740992) (he : e ≤ 2045) : ∃ z, Fl.num z ∧ Fl.ng z = false ∧ Fl.V (Fl.rg z) = a * 2 ^ e := by
  obtain ⟨r, h1, h2⟩ := Fl.V_rep e a ha he
  have hs : r < Fl.SGN := Nat.lt_trans h1 Fl.INF_lt_SGN
  have hr : Fl.rg r = r := Nat.mod_eq_of_lt hs
  exact ⟨r, by unfold Fl.num; rw [hr]; exact Nat.le_of_lt h1, by unfold Fl.ng; rw [Nat.div_eq_of_lt hs]; rfl, by rw [hr]; exact h2⟩

theorem div_zero : ∀ n, n < 501 → 1 ≤ n → Ieee.double.div (Fl.ofI ((0 : Nat) : Int)) (Fl.ofI ((n : Nat) : Int)) = some 0 := by decide +kernel

theorem ranks {k n : Nat} (hk : k ≤ n) (n1 : 1 ≤ n) (n2 : n ≤ 500) :
    ∃ q, Ieee.double.div (Fl.ofI k) (Fl.ofI n) = some q ∧ q < 18446744073709551616 ∧ isPart q = true ∧ (k : Int) ≤ Fl.wantN n (partW q n) ∧ Fl.wantN n (partW q n) ≤ k + 1 := by
  have up := Fl.U_pos
  obtain ⟨W, hW, hU, hH⟩ : ∃ W : Nat, (∀ c, c = 1054 → W = 2 ^ c) ∧ Fl.U = 1048576 * (W : Int) ∧ (∀ c, c = 1073 → 2 ^ c = 524288 * W) := by
    obtain ⟨c, hc⟩ : ∃ c, c = 1054 := ⟨_, rfl⟩
    refine ⟨2 ^ c, fun d hd => by rw [hd, hc], ?_, ?_⟩
    · rw [← Fl.C_cast]
      obtain ⟨d, hd, hC⟩ : ∃ d, d = 1074 ∧ Fl.C = 2 ^ d := ⟨_, rfl, rfl⟩
      rw [hC, show d = 20 + c by omega, Nat.pow_add, Int.natCast_mul]; rfl
    · intro d hd
      rw [show d = 19 + c by omega, Nat.pow_add]
  have hdiv : ∃ q, Ieee.double.div (Fl.ofI k) (Fl.ofI n) = some q ∧ q < 18446744073709551616 ∧ Fl.num q ∧ 0 ≤ Fl.val q ∧ Fl.val q ≤ Fl.U ∧
      (∀ t : Nat, t < 9007199254740992 → t * n ≤ k * 1048576 → ((t * W : Nat) : Int) ≤ Fl.val q) ∧
      (∀ t : Nat, t < 9007199254740992 → k * 1048576 ≤ t * n → Fl.val q ≤ ((t * W : Nat) : Int)) := by
    by_cases hk0 : k = 0
    · subst hk0
      refine ⟨0, div_zero n (by omega) n1, by decide, Fl.zero_num, by rw [Fl.zero_val]; exact Int.le_refl _, by rw [Fl.zero_val]; omega, ?_, ?_⟩
      · intro t _ ht
        rw [Nat.zero_mul] at ht
        have : t = 0 := by
          rcases Nat.mul_eq_zero.1 (Nat.le_zero.1 ht) with h | h <;> omega
        rw [this, Fl.zero_val]; simp
      · intro t _ _; rw [Fl.zero_val]; exact Int.natCast_nonneg _
    · obtain ⟨q, e, hq, lq, lo, hi⟩ := Fl.div_small (k := k) (n := n) (by omega) (by omega) (by omega) (by omega)
      have lo' : ∀ t : Nat, t < 9007199254740992 → t * n ≤ k * 1048576 → ((t * W : Nat) : Int) ≤ Fl.val q := by
        intro t h1 h2
        obtain ⟨z, z1, z2, z3⟩ := rep t 1054 h1 (by omega)
        have := lo z t z1 z2 z3 h2
        rw [← hW 1054 rfl] at z3
        rwa [show Fl.val z = ((t * W : Nat) : Int) from by unfold Fl.val; rw [z2, z3]; rfl] at this
      have hi' : ∀ t : Nat, t < 9007199254740992 → k * 1048576 ≤ t * n → Fl.val q ≤ ((t * W : Nat) : Int) := by
        intro t h1 h2
        obtain ⟨z, z1, z2, z3⟩ := rep t 1054 h1 (by omega)
        have := hi z t z1 z2 z3 h2
        rw [← hW 1054 rfl] at z3
        rwa [show Fl.val z = ((t * W : Nat) : Int) from by unfold Fl.val; rw [z2, z3]; rfl] at this
      refine ⟨q, e, lq, hq, ?_, ?_, lo', hi'⟩
      · have := lo' 0 (by omega) (by omega); simpa using this
      · have := hi' 1048576 (by omega) (by rw [Nat.mul_comm]; exact Nat.mul_le_mul_left _ hk)
        rw [hU]; simpa using this
  obtain ⟨q, e, lq, hq, q0, q1, lo, hi⟩ := hdiv
  refine ⟨q, e, lq, ?_, ?_⟩
  · unfold isPart
    rw [Fl.ge_num hq Fl.zero_num, Fl.le_num hq Fl.one_fin.num, Fl.zero_val, Fl.one_val]
    simp [q0, q1]
  obtain ⟨p, e1, fp, lp, p0, p1, rp⟩ := Fl.part_spec hq q0 q1 (n := n) (by omega)
  have ep : partW q n = p := by unfold partW; rw [e1]; rfl
  rw [ep]
  generalize hT : k * 1048576 / n = T at *
  have hdm := Nat.div_add_mod (k * 1048576) n
  have hmod := Nat.mod_lt (k * 1048576) (show n > 0 by omega)
  rw [hT] at hdm
  have hTb : T < 1048577 := by
    rw [← hT]; apply Nat.div_lt_of_lt_mul
    have : k * 1048576 ≤ n * 1048576 := Nat.mul_le_mul_right _ hk
    omega
  have hTn : n * T = T * n := Nat.mul_comm _ _
  have l1 := lo T (by omega) (by omega)
  have l2 := hi (T + 1) (by omega) (by rw [Nat.add_mul]; omega)
  have nn : (0 : Int) ≤ n := by omega
  have e2 : Fl.val q * ((n : Int) * Fl.U) = (Fl.val q * n) * Fl.U := (Int.mul_assoc _ _ _).symm
  have hW0 : (0 : Int) ≤ W := Int.natCast_nonneg _
  have u1 : Fl.val q * n ≤ ((k + 1 : Nat) : Int) * Fl.U := by
    refine Int.le_trans (Int.mul_le_mul_of_nonneg_right l2 nn) ?_
    have : (T + 1) * W * n ≤ (k + 1) * (1048576 * W) := by
      calc (T + 1) * W * n = (T + 1) * n * W := Nat.mul_right_comm _ _ _
        _ ≤ (k + 1) * 1048576 * W := Nat.mul_le_mul_right _ (by rw [Nat.add_mul]; omega)
        _ = _ := Nat.mul_assoc _ _ _
    rw [hU]
    have h := Int.ofNat_le.2 this
    simp only [Int.natCast_mul] at h ⊢
    exact h
  have hup : Fl.val p ≤ ((k + 1 : Nat) : Int) * Fl.U := by
    have hk1 : ((k + 1 : Nat) : Int).natAbs < 9007199254740992 := by omega
    have := rp.hi (Fl.ofI ((k + 1 : Nat) : Int)) (Fl.ofI_fin hk1).num (by
      rw [Fl.ofI_val hk1, Fl.U_eq, e2]
      exact Int.mul_le_mul_of_nonneg_right u1 (Int.le_of_lt up))
    rwa [Fl.ofI_val hk1] at this
  obtain ⟨c1, c2, c3⟩ := Fl.ceil_all fp p0 hup
  have hlo : (k : Int) ≤ Fl.ceilN p := by
    by_cases hk0 : k = 0
    · omega
    · obtain ⟨z, z1, z2, z3⟩ := rep (2 * k - 1) 1073 (by omega) (by omega)
      rw [hH 1073 rfl] at z3
      have vz : Fl.val z = (((2 * k - 1) * (524288 * W) : Nat) : Int) := by unfold Fl.val; rw [z2, z3]; rfl
      have := rp.lo z z1 (by
        rw [Fl.U_eq, e2]
        refine Int.mul_le_mul_of_nonneg_right ?_ (Int.le_of_lt up)
        refine Int.le_trans ?_ (Int.mul_le_mul_of_nonneg_right l1 nn)
        have : (2 * k - 1) * (524288 * W) ≤ T * W * n := by
          calc (2 * k - 1) * (524288 * W) = (2 * k - 1) * 524288 * W := (Nat.mul_assoc _ _ _).symm
            _ ≤ T * n * W := Nat.mul_le_mul_right _ (by omega)
            _ = _ := Nat.mul_right_comm _ _ _
        rw [vz]
        have h := Int.ofNat_le.2 this
        simp only [Int.natCast_mul] at h ⊢
        exact h)
      rw [vz] at this
      have h2 := Int.le_trans this c2
      have hWp : 0 < W := by
        rw [hU] at up
        omega
      rw [hU] at h2
      have h3 : (2 * k - 1) * 524288 * W ≤ Fl.ceilN p * 1048576 * W := by
        rw [Nat.mul_assoc, Nat.mul_assoc]
        exact Int.ofNat_le.1 (by simp only [Int.natCast_mul] at h2 ⊢; exact h2)
      have h4 := Nat.le_of_mul_le_mul_right h3 hWp
      omega
  unfold Fl.wantN
  split
  · omega
  · split <;> omega
end Go.Proofs.Ytofjgnlolmaidaa
