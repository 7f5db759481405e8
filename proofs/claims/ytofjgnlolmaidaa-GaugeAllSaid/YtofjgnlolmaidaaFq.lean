/- Plain facts on binary64 words: numbers in quarters. -/
import Derived.Test.YtofjgnlolmaidaaFp
namespace Go.Proofs.Ytofjgnlolmaidaa.Fl
set_option linter.unusedVariables false
open Ieee

def Q : Int := (2 : Int) ^ 1072
theorem Q_pos : 0 < Q := pow_pos_int 1072
theorem U_Q : U = 4 * Q := by
  unfold U Q
  rw [show (4 : Int) = (2 : Int) ^ 2 from rfl, ← Int.pow_add]

theorem rg_val (x : Nat) (h : 0 ≤ val x) : val (rg x) = val x ∧ rg (rg x) = rg x ∧ ng (rg x) = false := by
  have hlt := rg_lt x
  have e1 : rg (rg x) = rg x := Nat.mod_eq_of_lt hlt
  have e2 : ng (rg x) = false := by unfold ng; rw [Nat.div_eq_of_lt hlt]; rfl
  refine ⟨?_, e1, e2⟩
  unfold val at h ⊢
  rw [e1, e2]
  simp only [Bool.false_eq_true, if_false]
  split
  · rename_i hn; rw [if_pos hn] at h; omega
  · rfl
theorem rg_fin {x : Nat} (h : fin x) : fin (rg x) := by unfold fin; rw [show rg (rg x) = rg x from Nat.mod_eq_of_lt (rg_lt x)]; exact h

theorem read_mag {x : Nat} (h : fin x) : ∃ m i, double.read x = .number (ng x) m i ∧ -1074 ≤ i ∧ V (rg x) = m * 2 ^ (i + 1074).toNat ∧ m < 9007199254740992 := by
  obtain ⟨m, i, e, b, v⟩ := read_fin h
  refine ⟨m, i, e, b, v, ?_⟩
  unfold Format.read at e
  rw [double_leastPlace, double_binade, double_infRung, double_signWeight] at e
  simp only at e
  by_cases h1 : x % SGN < 4503599627370496
  · rw [if_pos h1] at e; injection e with _ e2 _; omega
  · rw [if_neg h1, if_pos (show x % SGN < INF from h)] at e; injection e with _ e2 _; omega

theorem read_four : double.read 4616189618054758400 = .number false 4503599627370496 (-50) := by decide +kernel

theorem div4 {x z : Nat} (hx : fin x) (hz : num z) (e : 4 * val z = val x) : ∃ r, double.div x 4616189618054758400 = some r ∧ num r ∧ r < 18446744073709551616 ∧ val r = val z := by
  obtain ⟨m, i, e1, b1, v1, hm⟩ := read_mag hx
  unfold Format.div
  rw [e1, read_four, double_fractionBits]
  simp only [Datum.quotient]
  rw [if_neg (by decide)]
  have hl : m.log2 ≤ 52 := by
    by_cases h0 : m = 0
    · subst h0; decide
    · have := (Nat.log2_lt h0 (k := 53)).2 hm; omega
  have hl2 : (4503599627370496 : Nat).log2 = 52 := by decide +kernel
  rw [hl2]
  generalize hk : 52 + 2 + 52 - m.log2 = k
  have hk54 : 54 ≤ k := by omega
  rw [Nat.shiftLeft_eq]
  have ek : m * 2 ^ k = m * 2 ^ (k - 52) * 4503599627370496 := by
    rw [Nat.mul_assoc, show (4503599627370496 : Nat) = 2 ^ 52 from rfl, ← Nat.pow_add]; congr 2; omega
  rw [ek, Nat.mul_div_cancel _ (by decide), Nat.mul_mod_left]
  simp only [bne_self_eq_false, Bool.toNat_false, Nat.add_zero, Bool.xor_false, Option.map_some, Format.write, nearest_eq]
  have hrd := Rd_word (ng x) (2 * (m * 2 ^ (k - 52))) (i - -50 - (k : Int) - 1) ((i + 1074).toNat + 49) k (by omega) (val x * (2 : Int) ^ (k - 2)) (by
    have e2 : 2 * (m * 2 ^ (k - 52)) * 2 ^ ((i + 1074).toNat + 49) = V (rg x) * 2 ^ (k - 2) := by
      rw [v1, Nat.pow_add, ← Nat.mul_assoc]
      have e3 : 2 ^ (k - 2) = 2 * 2 ^ (k - 52) * 2 ^ 49 := by
        rw [show 2 * 2 ^ (k - 52) = 2 ^ (k - 52 + 1) from by rw [Nat.pow_succ, Nat.mul_comm], ← Nat.pow_add]; congr 1; omega
      rw [e3]
      generalize 2 ^ (k - 52) = A
      generalize 2 ^ (i + 1074).toNat = B
      rw [Nat.mul_assoc 2 (m * A), Nat.mul_assoc m A, Nat.mul_left_comm 2 m, Nat.mul_comm A B, Nat.mul_left_comm 2 B A, ← Nat.mul_assoc m B, Nat.mul_assoc (m * B)]
    rw [e2, Int.natCast_mul, cast_pow]
    unfold val
    cases ng x <;> simp [Int.neg_mul])
  refine ⟨_, rfl, hrd.isnum, hrd.lt, hrd.exact hz ?_⟩
  rw [← e, show (2 : Int) ^ k = 4 * (2 : Int) ^ (k - 2) from by rw [show (4 : Int) = (2 : Int) ^ 2 from rfl, ← Int.pow_add]; congr 1; omega]
  generalize (2 : Int) ^ (k - 2) = P
  rw [Int.mul_comm 4 (val z), Int.mul_assoc]

/-- A word that stands for so many quarters. -/
theorem quarter (k : Nat) (h : k < 9007199254740992) : ∃ z, z < SGN ∧ fin z ∧ val z = k * Q := by
  obtain ⟨r, hr, e⟩ := V_rep 1072 k h (by omega)
  have hlt : r < SGN := Nat.lt_trans hr INF_lt_SGN
  refine ⟨r, hlt, by unfold fin rg; rw [Nat.mod_eq_of_lt hlt]; exact hr, ?_⟩
  unfold val ng rg
  rw [Nat.div_eq_of_lt hlt, Nat.mod_eq_of_lt hlt, e]
  simp only [Nat.zero_mod]
  exact cast_mul_pow k 1072

theorem fin_quarter {r : Nat} (h : num r) (k : Nat) (hk : k < 9007199254740992) (e : val r = k * Q) : fin r := by
  have := Q_pos
  have h0 : (0 : Int) ≤ k * Q := Int.mul_nonneg (by omega) (by omega)
  refine fin_of_val h hk ?_ ?_
  · rw [e, U_Q, ← Int.mul_assoc, Int.mul_comm _ 4, Int.mul_assoc]; omega
  · rw [e, U_Q]
    have : (0 : Int) ≤ k * (4 * Q) := Int.mul_nonneg (by omega) (by omega)
    omega

theorem sub_quarter {x y : Nat} {a b : Nat} (hx : fin x) (hy : fin y) (ha : a < 9007199254740992) (hb : b ≤ a) (ex : val x = a * Q) (ey : val y = b * Q) :
    ∃ r, double.sub x y = some r ∧ fin r ∧ r < 18446744073709551616 ∧ val r = ((a - b : Nat) : Int) * Q := by
  obtain ⟨r, e, hr⟩ := sub_fin hx hy
  obtain ⟨z, _, fz, ez⟩ := quarter (a - b) (by omega)
  have ev : val r = val z := hr.exact fz.num (by rw [ez, ex, ey, pow_zero_int, Int.mul_one, ← Int.sub_mul]; congr 1; omega)
  exact ⟨r, e, fin_quarter hr.isnum (a - b) (by omega) (by rw [ev, ez]), hr.lt, by rw [ev, ez]⟩

theorem add_quarter {x y : Nat} {a b : Nat} (hx : fin x) (hy : fin y) (ha : a + b < 9007199254740992) (ex : val x = a * Q) (ey : val y = b * Q) :
    ∃ r, double.add x y = some r ∧ fin r ∧ r < 18446744073709551616 ∧ val r = ((a + b : Nat) : Int) * Q := by
  obtain ⟨r, e, hr⟩ := add_fin hx hy
  obtain ⟨z, _, fz, ez⟩ := quarter (a + b) ha
  have ev : val r = val z := hr.exact fz.num (by rw [ez, ex, ey, pow_zero_int, Int.mul_one, ← Int.add_mul]; congr 1)
  exact ⟨r, e, fin_quarter hr.isnum (a + b) ha (by rw [ev, ez]), hr.lt, by rw [ev, ez]⟩

theorem div4_int (k : Nat) (h : k < 65536) : ∃ r, double.div (ofI k) 4616189618054758400 = some r ∧ fin r ∧ r < 18446744073709551616 ∧ val r = k * Q := by
  obtain ⟨z, _, fz, ez⟩ := quarter k (by omega)
  have hk : (k : Int).natAbs < 9007199254740992 := by omega
  obtain ⟨r, e, n, l, v⟩ := div4 (ofI_fin hk) fz.num (by rw [ez, ofI_val hk, U_Q, ← Int.mul_assoc, ← Int.mul_assoc, Int.mul_comm 4])
  exact ⟨r, e, fin_quarter n k (by omega) (by rw [v, ez]), l, by rw [v, ez]⟩

theorem quarter_is : val 4598175219545276416 = 1 * Q := by
  obtain ⟨k, hk, h1⟩ : ∃ k, 52 + k = 1072 ∧ V 4598175219545276416 = 4503599627370496 * 2 ^ k := ⟨1020, rfl, by decide +kernel⟩
  have e : ng 4598175219545276416 = false := by decide
  have e2 : rg 4598175219545276416 = 4598175219545276416 := by decide
  unfold val
  rw [e, e2, h1]
  simp only [Bool.false_eq_true, if_false]
  unfold Q
  rw [cast_mul_pow, show ((4503599627370496 : Nat) : Int) = (2 : Int) ^ 52 from rfl, ← Int.pow_add, Int.one_mul, hk]
theorem quarter_fin : fin 4598175219545276416 := by decide

end Go.Proofs.Ytofjgnlolmaidaa.Fl
