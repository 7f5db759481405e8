/- Plain facts: rounding keeps the order; ranks rise. -/
import Derived.Test.YtofjgnlolmaidaaGs
namespace Go.Proofs.Ytofjgnlolmaidaa.Fl
set_option linter.unusedVariables false
open Ieee

/-- The halves: what a rung's neighbours say. -/
theorem nrung_half (mag u d : Nat) (place : Int) (hp : place = -1074 + u - d) (s : Nat) :
    (s + 1 ≤ nrung mag place → (V s + V (s + 1)) * 2 ^ d ≤ 2 * (mag * 2 ^ u)) ∧ (nrung mag place ≤ s → s < INF → 2 * (mag * 2 ^ u) ≤ (V s + V (s + 1)) * 2 ^ d) := by
  by_cases h0 : mag = 0
  · subst h0
    unfold nrung; rw [if_pos rfl, Nat.zero_mul]
    exact ⟨fun h => absurd h (Nat.not_succ_le_zero s), fun _ _ => Nat.zero_le _⟩
  · unfold nrung; rw [if_neg h0]
    generalize hl : max (place + (mag.log2 : Int) - 52) (-1074) = last
    have hq : ∃ q : Nat, last = (q : Int) - 1074 := ⟨(last + 1074).toNat, by omega⟩
    obtain ⟨q, rfl⟩ := hq
    have eq1 : ((q : Int) - 1074 + 1074).toNat = q := by omega
    rw [eq1]
    generalize ha : (place - ((q : Int) - 1074)).toNat = a
    generalize hb : ((q : Int) - 1074 - place).toNat = b
    have hub : u + b = a + d + q := by omega
    rw [Nat.shiftLeft_eq]
    obtain ⟨c1, c2⟩ := cut_even false (mag * 2 ^ a) b
    generalize hk : Toward.even.cut false (mag * 2 ^ a) b = k at c1 c2
    have hlo : 2 ^ mag.log2 ≤ mag := Nat.log2_self_le h0
    have hhi : mag < 2 ^ (mag.log2 + 1) := (Nat.log2_lt h0).1 (Nat.lt_succ_self _)
    -- the scaled number
    have key : mag * 2 ^ u * 2 ^ b = mag * 2 ^ a * (2 ^ q * 2 ^ d) := by
      rw [Nat.mul_assoc, ← Nat.pow_add, hub, Nat.mul_assoc, ← Nat.pow_add, ← Nat.pow_add]; congr 2; omega
    have pb := Nat.two_pow_pos b
    have pq := Nat.two_pow_pos q
    have pd := Nat.two_pow_pos d
    -- upper: 2E ≤ (2k+1) 2^q 2^d
    have up : 2 * (mag * 2 ^ u) ≤ (2 * k + 1) * (2 ^ q * 2 ^ d) := by
      refine Nat.le_of_mul_le_mul_right ?_ pb
      calc 2 * (mag * 2 ^ u) * 2 ^ b = 2 * (mag * 2 ^ a) * (2 ^ q * 2 ^ d) := by rw [Nat.mul_assoc, key, ← Nat.mul_assoc]
        _ ≤ (2 * k + 1) * 2 ^ b * (2 ^ q * 2 ^ d) := Nat.mul_le_mul_right _ c1
        _ = (2 * k + 1) * (2 ^ q * 2 ^ d) * 2 ^ b := by rw [Nat.mul_right_comm]
    have lo : 2 * k * (2 ^ q * 2 ^ d) ≤ 2 * (mag * 2 ^ u) + 2 ^ q * 2 ^ d := by
      refine Nat.le_of_mul_le_mul_right ?_ pb
      calc 2 * k * (2 ^ q * 2 ^ d) * 2 ^ b = 2 * k * 2 ^ b * (2 ^ q * 2 ^ d) := by rw [Nat.mul_right_comm]
        _ ≤ (2 * (mag * 2 ^ a) + 2 ^ b) * (2 ^ q * 2 ^ d) := Nat.mul_le_mul_right _ c2
        _ = (2 * (mag * 2 ^ u) + 2 ^ q * 2 ^ d) * 2 ^ b := by rw [Nat.add_mul, Nat.add_mul, Nat.mul_assoc 2, ← key, Nat.mul_assoc 2, Nat.mul_comm (2 ^ b)]
    -- the size of the kept digits
    have hk53 : k ≤ 9007199254740992 := by
      have hle : (mag.log2 : Int) + place ≤ (q : Int) - 1074 + 52 := by omega
      -- mag * 2^a < 2^53 * 2^b
      have h1 : mag * 2 ^ a < 9007199254740992 * 2 ^ b := by
        have : mag * 2 ^ a < 2 ^ (mag.log2 + 1) * 2 ^ a := Nat.mul_lt_mul_of_pos_right hhi (Nat.two_pow_pos a)
        have e : 9007199254740992 * 2 ^ b = 2 ^ (53 + b) := by rw [Nat.pow_add]
        rw [e]
        refine Nat.lt_of_lt_of_le this ?_
        rw [← Nat.pow_add]
        exact Nat.pow_le_pow_right (by omega) (by omega)
      have h2 : 2 * k * 2 ^ b < (2 * 9007199254740992 + 1) * 2 ^ b := by
        rw [Nat.add_mul, Nat.one_mul, Nat.mul_assoc]; rw [Nat.mul_assoc] at c2; rw [Nat.mul_assoc]; omega
      have := Nat.lt_of_mul_lt_mul_right h2
      omega
    have hsmall : mag * 2 ^ u < 9007199254740992 * (2 ^ q * 2 ^ d) := by
      have hle : (mag.log2 : Int) + place ≤ (q : Int) - 1074 + 52 := by omega
      have : mag * 2 ^ u < 2 ^ (mag.log2 + 1) * 2 ^ u := Nat.mul_lt_mul_of_pos_right hhi (Nat.two_pow_pos u)
      have e : 9007199254740992 * (2 ^ q * 2 ^ d) = 2 ^ (53 + q + d) := by rw [← Nat.pow_add, Nat.add_assoc, Nat.pow_add 2 53]
      rw [e]
      refine Nat.lt_of_lt_of_le this ?_
      rw [← Nat.pow_add]
      exact Nat.pow_le_pow_right (by omega) (by omega)
    have hbig : 0 < q → 4503599627370496 * (2 ^ q * 2 ^ d) ≤ mag * 2 ^ u := by
      intro hq0
      have hle : (q : Int) - 1074 + 52 ≤ (mag.log2 : Int) + place := by omega
      have e : 4503599627370496 * (2 ^ q * 2 ^ d) = 2 ^ (52 + q + d) := by rw [← Nat.pow_add, Nat.add_assoc, Nat.pow_add 2 52]
      rw [e]
      refine Nat.le_trans ?_ (Nat.mul_le_mul_right _ hlo)
      rw [← Nat.pow_add]
      exact Nat.pow_le_pow_right (by omega) (by omega)
    have hk52 : q = 0 ∨ 4503599627370496 ≤ k := by
      by_cases hq0 : q = 0
      · exact .inl hq0
      · right
        have := hbig (by omega)
        have h2 : 2 * 4503599627370496 * (2 ^ q * 2 ^ d) ≤ (2 * k + 1) * (2 ^ q * 2 ^ d) := by
          rw [Nat.mul_assoc]; omega
        have := Nat.le_of_mul_le_mul_right h2 (Nat.mul_pos pq pd)
        omega
    have hV : V (q * 4503599627370496 + k) = k * 2 ^ q := V_mk q k hk53 hk52
    have pg : 0 < 2 ^ q * 2 ^ d := Nat.mul_pos pq pd
    clear hk c1 c2 key hlo hhi hl ha hb hub eq1 hp
    generalize hX : mag * 2 ^ u = X at *
    generalize hD : 2 ^ d = D at *
    generalize hG : 2 ^ q * D = G at *
    clear hX hD
    constructor
    · intro h
      have hR : s + 1 ≤ q * 4503599627370496 + k := Nat.le_trans h (Nat.min_le_left _ _)
      by_cases hk2 : q = 0 ∨ 4503599627370496 < k
      · have hk0 : k ≠ 0 := by omega
        obtain ⟨m, rfl⟩ : ∃ m, k = m + 1 := ⟨k - 1, by omega⟩
        have v1 := V_le (show s ≤ q * 4503599627370496 + m from by omega)
        rw [V_mk q m (by omega) (by omega)] at v1
        have v2 := V_le hR
        rw [hV] at v2
        have h2 : V s + V (s + 1) ≤ (2 * m + 1) * 2 ^ q := by
          refine Nat.le_trans (Nat.add_le_add v1 v2) (Nat.le_of_eq ?_)
          rw [← Nat.add_mul]; exact congrArg (· * 2 ^ q) (by omega)
        have h3 := Nat.mul_le_mul_right D h2
        rw [Nat.mul_assoc, hG] at h3
        have e : 2 * (m + 1) * G = (2 * m + 1) * G + G := by rw [show 2 * (m + 1) = (2 * m + 1) + 1 from by omega, Nat.add_mul (2 * m + 1) 1 G, Nat.one_mul]
        rw [e] at lo
        exact Nat.le_trans h3 (Nat.le_of_add_le_add_right lo)
      · have hk3 : k = 4503599627370496 := by
          rcases hk52 with e | e
          · exact absurd (Or.inl e) hk2
          · exact Nat.le_antisymm (Nat.le_of_not_lt fun h => hk2 (.inr h)) e
        have hq0 : 0 < q := Nat.pos_of_ne_zero fun e => hk2 (.inl e)
        have v1 := V_le (Nat.le_of_succ_le hR)
        have v2 := V_le hR
        rw [hV] at v1 v2
        have h2 : V s + V (s + 1) ≤ (2 * k) * 2 ^ q := by
          refine Nat.le_trans (Nat.add_le_add v1 v2) (Nat.le_of_eq ?_)
          rw [← Nat.add_mul]; exact congrArg (· * 2 ^ q) (by omega)
        have h3 := Nat.mul_le_mul_right D h2
        rw [Nat.mul_assoc, hG] at h3
        have h4 : k * G ≤ X := by
          have h5 := hbig hq0
          clear h3 h2 v1 v2 hR
          rw [hk3]; exact h5
        exact Nat.le_trans h3 (by rw [Nat.mul_assoc]; exact Nat.mul_le_mul_left 2 h4)
    · intro h hs
      have hR : q * 4503599627370496 + k ≤ s := by
        rw [Nat.min_def] at h
        split at h
        · exact h
        · exact absurd (Nat.lt_of_lt_of_le hs h) (Nat.lt_irrefl _)
      clear h hs
      by_cases hk2 : k = 9007199254740992
      · have v1 := V_le hR
        have v2 := V_le (Nat.le_succ_of_le hR)
        rw [hV] at v1 v2
        have h2 : (2 * k) * 2 ^ q ≤ V s + V (s + 1) := by
          refine Nat.le_trans (Nat.le_of_eq ?_) (Nat.add_le_add v1 v2)
          rw [← Nat.add_mul]; exact congrArg (· * 2 ^ q) (by omega)
        have h3 := Nat.mul_le_mul_right D h2
        rw [Nat.mul_assoc, hG] at h3
        have h4 : X ≤ k * G := by
          clear h3 h2 v1 v2 hR
          rw [hk2]; exact Nat.le_of_lt hsmall
        exact Nat.le_trans (by rw [Nat.mul_assoc]; exact Nat.mul_le_mul_left 2 h4) h3
      · have v1 := V_le hR
        have v2 := V_le (show q * 4503599627370496 + (k + 1) ≤ s + 1 from Nat.succ_le_succ hR)
        rw [hV] at v1
        rw [V_mk q (k + 1) (Nat.lt_of_le_of_ne hk53 hk2) (hk52.imp id Nat.le_succ_of_le)] at v2
        have h2 : (2 * k + 1) * 2 ^ q ≤ V s + V (s + 1) := by
          refine Nat.le_trans (Nat.le_of_eq ?_) (Nat.add_le_add v1 v2)
          rw [← Nat.add_mul]; exact congrArg (· * 2 ^ q) (by omega)
        have h3 := Nat.mul_le_mul_right D h2
        rw [Nat.mul_assoc, hG] at h3
        exact Nat.le_trans up h3

theorem nrung_mono (m1 u1 m2 u2 d : Nat) (p1 p2 : Int) (hp1 : p1 = -1074 + u1 - d) (hp2 : p2 = -1074 + u2 - d) (h : m1 * 2 ^ u1 < m2 * 2 ^ u2) : nrung m1 p1 ≤ nrung m2 p2 := by
  refine Nat.le_of_not_lt fun hlt => ?_
  have a := (nrung_half m1 u1 d p1 hp1 (nrung m2 p2)).1 hlt
  have b := (nrung_half m2 u2 d p2 hp2 (nrung m2 p2)).2 (Nat.le_refl _) (Nat.lt_of_lt_of_le hlt (nrung_le _ _))
  omega
end Go.Proofs.Ytofjgnlolmaidaa.Fl
