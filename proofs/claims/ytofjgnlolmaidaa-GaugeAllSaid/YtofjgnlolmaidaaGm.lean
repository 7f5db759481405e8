/- Plain facts: the quotient of two small whole numbers; the rank that it gives. -/
import Derived.Test.YtofjgnlolmaidaaGi
import Derived.Test.YtofjgnlolmaidaaFq
namespace Go.Proofs.Ytofjgnlolmaidaa.Fl
set_option linter.unusedVariables false
open Ieee

theorem pow_lt_inv {a b : Nat} (h : 2 ^ a < 2 ^ b) : a < b := (Nat.pow_lt_pow_iff_right (by omega)).1 h
theorem pow_le_inv {a b : Nat} (h : 2 ^ a ≤ 2 ^ b) : a ≤ b := (Nat.pow_le_pow_iff_right (by omega)).1 h

/-- The quotient of small whole numbers against a number t / 2^20. -/
theorem div_small {k n : Nat} (hk0 : 0 < k) (hk : k < 512) (hn0 : 0 < n) (hn : n < 512) :
    ∃ q, double.div (ofI k) (ofI n) = some q ∧ num q ∧ q < 18446744073709551616 ∧
      (∀ z t, num z → ng z = false → V (rg z) = t * 2 ^ 1054 → t * n ≤ k * 1048576 → val z ≤ val q) ∧
      (∀ z t, num z → ng z = false → V (rg z) = t * 2 ^ 1054 → k * 1048576 ≤ t * n → val q ≤ val z) := by
  have ik : (k : Int).natAbs < 9007199254740992 := by omega
  have inn : (n : Int).natAbs < 9007199254740992 := by omega
  obtain ⟨m, i, e1, b1, v1⟩ := read_fin (ofI_fin ik)
  obtain ⟨nn, j, e2, b2, v2⟩ := read_fin (ofI_fin inn)
  obtain ⟨c, hc⟩ : ∃ c, c = 1074 := ⟨_, rfl⟩
  have word_of : ∀ a : Nat, a < 9007199254740992 → ng (ofI a) = false ∧ V (rg (ofI a)) = a * 2 ^ c := by
    intro a ha
    have hw : ofI a = word false (nrung a 0) := by
      unfold ofI
      rw [show decide ((a : Int) < 0) = false from decide_eq_false (by omega)]
      show double.nearest false _ 0 = _
      rw [nearest_eq]; simp
    obtain ⟨w1, w2⟩ := nrung_whole ha
    have hlt : nrung a 0 < SGN := Nat.lt_trans w1 INF_lt_SGN
    rw [hw, ng_word _ hlt, rg_word _ hlt, w2]
    exact ⟨rfl, by unfold C; rw [hc]⟩
  obtain ⟨nk, Vk⟩ := word_of k (by omega)
  obtain ⟨nnn, Vn⟩ := word_of n (by omega)
  rw [Vk] at v1
  rw [Vn] at v2
  rw [nk] at e1
  rw [nnn] at e2
  obtain ⟨I, hI⟩ : ∃ I : Nat, (i + 1074).toNat = I := ⟨_, rfl⟩
  obtain ⟨J, hJ⟩ : ∃ J : Nat, (j + 1074).toNat = J := ⟨_, rfl⟩
  rw [hI] at v1
  rw [hJ] at v2
  have m0 : m ≠ 0 := by
    rintro rfl
    rw [Nat.zero_mul] at v1
    have := Nat.mul_pos hk0 (Nat.two_pow_pos c); omega
  have nn0 : nn ≠ 0 := by
    rintro rfl
    rw [Nat.zero_mul] at v2
    have := Nat.mul_pos hn0 (Nat.two_pow_pos c); omega
  have lm : m.log2 + I < 9 + c := by
    apply pow_lt_inv
    rw [Nat.pow_add, Nat.pow_add]
    calc 2 ^ m.log2 * 2 ^ I ≤ m * 2 ^ I := Nat.mul_le_mul_right _ (Nat.log2_self_le m0)
      _ = k * 2 ^ c := v1.symm
      _ < 2 ^ 9 * 2 ^ c := Nat.mul_lt_mul_of_pos_right hk (Nat.two_pow_pos c)
  have ln : c < nn.log2 + 1 + J := by
    apply pow_lt_inv
    rw [Nat.pow_add]
    calc 2 ^ c ≤ n * 2 ^ c := Nat.le_mul_of_pos_left _ hn0
      _ = nn * 2 ^ J := v2
      _ < 2 ^ (nn.log2 + 1) * 2 ^ J := Nat.mul_lt_mul_of_pos_right ((Nat.log2_lt nn0).1 (Nat.lt_succ_self _)) (Nat.two_pow_pos J)
  have mb : m.log2 ≤ 54 + nn.log2 := by
    obtain ⟨m', i', f1, _, f3, f4⟩ := read_mag (ofI_fin ik)
    rw [e1] at f1
    injection f1 with _ g1 _
    subst g1
    have := (Nat.log2_lt m0 (k := 53)).2 f4
    omega
  unfold Format.div
  rw [e1, e2, double_fractionBits]
  simp only [Datum.quotient]
  rw [if_neg nn0]
  obtain ⟨more, hmore⟩ : ∃ more, 52 + 2 + nn.log2 - m.log2 = more := ⟨_, rfl⟩
  rw [hmore, Nat.shiftLeft_eq]
  have hmore2 : more + m.log2 = 54 + nn.log2 := by omega
  generalize hF : m * 2 ^ more / nn = F
  generalize hR : m * 2 ^ more % nn = R
  have hdm := Nat.div_add_mod (m * 2 ^ more) nn
  rw [hF, hR] at hdm
  have hmod := Nat.mod_lt (m * 2 ^ more) (Nat.pos_of_ne_zero nn0)
  rw [hR] at hmod
  simp only [Bool.xor_self, Option.map_some, Format.write, nearest_eq]
  have hle := nrung_le (2 * F + (R != 0).toNat) (i - j - (more : Int) - 1)
  have hlt : nrung (2 * F + (R != 0).toNat) (i - j - (more : Int) - 1) < SGN := Nat.lt_of_le_of_lt hle INF_lt_SGN
  refine ⟨_, rfl, by unfold num; rw [rg_word _ hlt]; exact hle, word_lt _ hlt, ?_, ?_⟩
  all_goals
    intro z t hz hng hVz hcmp
    obtain ⟨c2, hc2⟩ : ∃ c2, c2 = 1054 := ⟨_, rfl⟩
    rw [← hc2] at hVz
    have hvz : val z = (V (rg z) : Int) := by unfold val; rw [hng]; rfl
    rw [hvz, val_word _ hlt]
    simp only [Bool.false_eq_true, if_false]
    have hs := nrung_spec (2 * F + (R != 0).toNat) (I + c) (J + more + 1) (i - j - (more : Int) - 1) (by omega) (rg z)
    -- t * 2^1054 * 2^(J+more+1) is twice T times 2^(I+c)
    obtain ⟨g, hg⟩ : ∃ g, c2 + (J + more + 1) = (g + 1) + (I + c) := ⟨c2 + (J + more + 1) - (I + c) - 1, by omega⟩
    have hT : V (rg z) * 2 ^ (J + more + 1) = 2 * (t * 2 ^ g) * 2 ^ (I + c) := by
      rw [hVz, Nat.mul_assoc, ← Nat.pow_add, hg, Nat.pow_add, Nat.pow_succ]
      generalize 2 ^ g = A
      generalize 2 ^ (I + c) = Bq
      rw [← Nat.mul_assoc, Nat.mul_comm A 2, Nat.mul_left_comm t 2 A]
    -- T nn against m 2^more
    have hX : t * 2 ^ g * nn * 2 ^ (J + 1) * 2 ^ I * 2 ^ 0 = t * n * 2 ^ (g + 1 + I + c) := by
      rw [Nat.pow_zero, Nat.mul_one, Nat.pow_succ]
      have : nn * 2 ^ J = n * 2 ^ c := v2.symm
      calc t * 2 ^ g * nn * (2 ^ J * 2) * 2 ^ I = t * 2 ^ g * 2 * 2 ^ I * (nn * 2 ^ J) := by
            generalize 2 ^ g = A; generalize 2 ^ J = Bj; generalize 2 ^ I = Bi
            simp only [Nat.mul_assoc, Nat.mul_comm, Nat.mul_left_comm]
        _ = t * 2 ^ g * 2 * 2 ^ I * (n * 2 ^ c) := by rw [this]
        _ = t * n * 2 ^ (g + 1 + I + c) := by
            rw [Nat.pow_add, Nat.pow_add, Nat.pow_succ]
            generalize 2 ^ g = A; generalize 2 ^ c = Bc; generalize 2 ^ I = Bi
            simp only [Nat.mul_assoc, Nat.mul_comm, Nat.mul_left_comm]
    have hY : m * 2 ^ more * 2 ^ (J + 1) * 2 ^ I = k * 1048576 * 2 ^ (g + 1 + I + c) := by
      have h20 : (1048576 : Nat) = 2 ^ 20 := rfl
      calc m * 2 ^ more * 2 ^ (J + 1) * 2 ^ I = (m * 2 ^ I) * (2 ^ more * 2 ^ (J + 1)) := by
            generalize 2 ^ more = A; generalize 2 ^ (J + 1) = Bj; generalize 2 ^ I = Bi
            simp only [Nat.mul_assoc, Nat.mul_comm, Nat.mul_left_comm]
        _ = k * 2 ^ c * 2 ^ (more + (J + 1)) := by rw [← v1, ← Nat.pow_add]
        _ = k * 2 ^ (c + (more + (J + 1))) := by rw [Nat.mul_assoc, ← Nat.pow_add]
        _ = k * 2 ^ (20 + (g + 1 + I + c)) := by congr 2; omega
        _ = k * 1048576 * 2 ^ (g + 1 + I + c) := by rw [Nat.pow_add, h20, Nat.mul_assoc]
    have pos : 0 < 2 ^ (J + 1) * 2 ^ I := Nat.mul_pos (Nat.two_pow_pos _) (Nat.two_pow_pos _)
    rw [Nat.pow_zero, Nat.mul_one] at hX
    generalize t * 2 ^ g = T at hT hX
  · have hTle : T * nn ≤ m * 2 ^ more := by
      refine Nat.le_of_mul_le_mul_right ?_ pos
      rw [← Nat.mul_assoc, ← Nat.mul_assoc, hX, hY]
      exact Nat.mul_le_mul_right _ hcmp
    have hTF : T ≤ F := by
      rw [← hF]
      exact (Nat.le_div_iff_mul_le (Nat.pos_of_ne_zero nn0)).2 hTle
    have := V_le (hs.1 (by rw [hT]; exact Nat.mul_le_mul_right _ (by omega)) hz)
    omega
  · have hTge : m * 2 ^ more ≤ T * nn := by
      refine Nat.le_of_mul_le_mul_right ?_ pos
      rw [← Nat.mul_assoc, ← Nat.mul_assoc, hX, hY]
      exact Nat.mul_le_mul_right _ hcmp
    have hmag : 2 * F + (R != 0).toNat ≤ 2 * T := by
      by_cases hr : R = 0
      · subst hr
        simp only [bne_self_eq_false, Bool.toNat_false]
        have : F ≤ T := by
          refine Nat.le_of_mul_le_mul_right ?_ (Nat.pos_of_ne_zero nn0)
          rw [Nat.mul_comm F]; omega
        omega
      · have hb : (R != 0) = true := by simp [hr]
        rw [hb]; simp only [Bool.toNat_true]
        have : F < T := by
          refine Nat.lt_of_mul_lt_mul_right (a := nn) ?_
          rw [Nat.mul_comm F]; omega
        omega
    have := V_le (hs.2 (by rw [hT]; exact Nat.mul_le_mul_right _ hmag))
    omega
end Go.Proofs.Ytofjgnlolmaidaa.Fl
