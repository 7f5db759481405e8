/- Plain facts: a gauge of 64 bounds, told of small whole numbers: its quantile. -/
import Derived.Test.YtofjgnlolmaidaaGn
import Derived.Test.YtofjgnlolmaidaaGk
namespace Go.Proofs.Ytofjgnlolmaidaa
set_option linter.unusedVariables false
open Go.RowKit

def b64 : Nat → Nat := fun i => Fl.ofI ((i : Nat) : Int)
theorem b64_num : ∀ j, j < 64 → Fl.num (b64 j) := fun j hj => (Fl.ofI_fin (by omega)).num
theorem b64_lt : ∀ j, j < 64 → b64 j < 18446744073709551616 := fun j hj => Fl.ofI_lt (by omega)
theorem b64_up : ∀ j, j < 64 → 0 < j → key (b64 (j - 1)) < key (b64 j) := by decide +kernel
theorem b64_fit : Fit 64 b64 := ⟨b64_num, fun j h0 hj => b64_up j hj h0⟩
theorem b64_ix : ∀ v, v < 64 → ixFrom b64 (b64 v) 64 0 = v := by decide +kernel

/-- Told of the first k numbers. -/
def gk (ys : Nat → Nat) : Nat → Gau
  | 0 => gau0 64 b64
  | k + 1 => put (gk ys k) (b64 (ys k % 64))
theorem gk_n (ys : Nat → Nat) : ∀ k, (gk ys k).n = 64
  | 0 => rfl
  | k + 1 => (put_n _ _).trans (gk_n ys k)
theorem gk_bs (ys : Nat → Nat) : ∀ k, (gk ys k).bs = b64
  | 0 => rfl
  | k + 1 => (put_bs _ _).trans (gk_bs ys k)
theorem gk_sane (ys : Nat → Nat) : ∀ k, Sane (gk ys k) k
  | 0 => sane0 b64_fit b64_lt (by omega)
  | k + 1 => (gk_sane ys k).put (b64_lt _ (Nat.mod_lt _ (by omega)))
def cnt (f : Nat → Bool) : Nat → Nat
  | 0 => 0
  | n + 1 => cnt f n + (f n).toNat
theorem cnt_le (f : Nat → Bool) : ∀ n, cnt f n ≤ n
  | 0 => Nat.le_refl _
  | n + 1 => by have := cnt_le f n; simp only [cnt]; cases f n <;> simp <;> omega
theorem gk_at (ys : Nat → Nat) : ∀ k, (gk ys k).count = k ∧ ∀ i, (gk ys k).cs i = (cnt (fun t => ys t % 64 == i) k : Nat)
  | 0 => ⟨rfl, fun _ => rfl⟩
  | k + 1 => by
    obtain ⟨h1, h2⟩ := gk_at ys k
    have hv := Nat.mod_lt (ys k) (show 64 > 0 by omega)
    have e : gk ys (k + 1) = put (gk ys k) (b64 (ys k % 64)) := rfl
    rw [e, put_num (b64_num _ hv)]
    refine ⟨by simp only [h1]; omega, fun i => ?_⟩
    have hix : ix (gk ys k) (b64 (ys k % 64)) = ys k % 64 := by
      unfold ix; rw [gk_bs, gk_n]; exact b64_ix _ hv
    simp only [hix, cnt, h2]
    by_cases hi : i = ys k % 64
    · subst hi; simp
    · rw [if_neg hi]; have : (ys k % 64 == i) = false := by simp; omega
      rw [this]; simp

def pre (ys : Nat → Nat) (n i : Nat) : Nat := cnt (fun t => decide (ys t % 64 < i)) n
theorem pre_zero (ys : Nat → Nat) (n : Nat) : pre ys n 0 = 0 := by
  induction n with
  | zero => rfl
  | succ n ih => unfold pre at ih ⊢; simp only [cnt, ih]; simp
theorem pre_all (ys : Nat → Nat) (n : Nat) : pre ys n 64 = n := by
  induction n with
  | zero => rfl
  | succ n ih =>
    unfold pre at ih ⊢; simp only [cnt, ih]
    have := Nat.mod_lt (ys n) (show 64 > 0 by omega)
    rw [decide_eq_true this]; rfl
theorem pre_succ (ys : Nat → Nat) (n i : Nat) : pre ys n (i + 1) = pre ys n i + cnt (fun t => ys t % 64 == i) n := by
  induction n with
  | zero => rfl
  | succ n ih =>
    unfold pre at ih ⊢; simp only [cnt, ih]
    have : (decide (ys n % 64 < i + 1)).toNat = (decide (ys n % 64 < i)).toNat + (ys n % 64 == i).toNat := by
      by_cases h1 : ys n % 64 < i
      · rw [decide_eq_true h1, decide_eq_true (by omega : ys n % 64 < i + 1)]
        have : (ys n % 64 == i) = false := by simp; omega
        rw [this]; rfl
      · rw [decide_eq_false h1]
        by_cases h2 : ys n % 64 = i
        · rw [decide_eq_true (by omega : ys n % 64 < i + 1)]; simp [h2]
        · rw [decide_eq_false (by omega : ¬ ys n % 64 < i + 1)]
          have : (ys n % 64 == i) = false := by simp; omega
          rw [this]; rfl
    omega

theorem qFrom_at (ys : Nat → Nat) (n : Nat) (R : Int) (hR : R ≤ n) : ∀ d i, i + d = 64 → (pre ys n i : Int) < R →
    ∃ j, j < 64 ∧ qFrom (gk ys n) d i (R - pre ys n i) = b64 j ∧ (pre ys n j : Int) < R ∧ R ≤ pre ys n (j + 1) := by
  intro d
  induction d with
  | zero => intro i hi h; have : i = 64 := by omega
            subst this; rw [pre_all] at h; omega
  | succ d ih =>
    intro i hi h
    simp only [qFrom]
    rw [(gk_at ys n).2 i, gk_bs]
    have hs := pre_succ ys n i
    by_cases hc : R - (pre ys n i : Int) - (cnt (fun t => ys t % 64 == i) n : Nat) ≤ 0
    · rw [if_pos hc]; exact ⟨i, by omega, rfl, h, by omega⟩
    · rw [if_neg hc]
      obtain ⟨j, h1, h2, h3, h4⟩ := ih (i + 1) (by omega) (by omega)
      refine ⟨j, h1, ?_, h3, h4⟩
      rw [← h2]; congr 1; omega

/-- The whole of it. -/
theorem ranks_law (ys : Nat → Nat) {k n : Nat} (hk : k ≤ n) (n1 : 1 ≤ n) (n2 : n ≤ 500) :
    ∃ q j, Ieee.double.div (Fl.ofI k) (Fl.ofI n) = some q ∧ q < 18446744073709551616 ∧ j < 64 ∧ quantile (gk ys n) q = (b64 j, 0) ∧
      k ≤ pre ys n (j + 1) ∧ pre ys n j < pre ys n (j + 1) ∧ pre ys n j ≤ k := by
  obtain ⟨q, e, lq, hp, h1, h2⟩ := ranks hk n1 n2
  have wr := Fl.wantN_range (most := (n : Int)) (s := partW q n) (by omega)
  have hc := (gk_at ys n).1
  obtain ⟨j, j1, j2, j3, j4⟩ := qFrom_at ys n (Fl.wantN n (partW q n)) wr.2 64 0 rfl (by rw [pre_zero]; omega)
  refine ⟨q, j, e, lq, j1, ?_, by omega, by omega, by omega⟩
  unfold quantile
  rw [if_pos hp, hc, if_neg (by omega), gk_n]
  rw [pre_zero] at j2
  rw [← j2]; congr 2; omega

theorem lt_small {a j : Nat} (ha : a < 64) (hj : j < 64) : (Fl.ord (b64 a) (b64 j) == some .lt) = decide (a < j) := by
  have up := Fl.U_pos
  rw [Fl.lt_num (b64_num a ha) (b64_num j hj)]
  unfold b64
  rw [Fl.ofI_val (by omega), Fl.ofI_val (by omega), Bool.eq_iff_iff]
  simp only [decide_eq_true_eq]
  refine ⟨fun h => ?_, fun h => Int.mul_lt_mul_of_pos_right (by omega) up⟩
  have := Int.lt_of_mul_lt_mul_right h (Int.le_of_lt up); omega
theorem le_small {a j : Nat} (ha : a < 64) (hj : j < 64) : (Fl.ord (b64 a) (b64 j) == some .lt || Fl.ord (b64 a) (b64 j) == some .eq) = decide (a < j + 1) := by
  have up := Fl.U_pos
  rw [Fl.le_num (b64_num a ha) (b64_num j hj)]
  unfold b64
  rw [Fl.ofI_val (by omega), Fl.ofI_val (by omega), Bool.eq_iff_iff]
  simp only [decide_eq_true_eq]
  refine ⟨fun h => ?_, fun h => Int.mul_le_mul_of_nonneg_right (by omega) (Int.le_of_lt up)⟩
  have := Int.le_of_mul_le_mul_right h up; omega
end Go.Proofs.Ytofjgnlolmaidaa
