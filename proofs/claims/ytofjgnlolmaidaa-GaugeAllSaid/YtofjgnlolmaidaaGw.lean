/- Plain facts: the cells' sum; the quantiles rise. -/
import Derived.Test.YtofjgnlolmaidaaGv
namespace Go.Proofs.Ytofjgnlolmaidaa
set_option linter.unusedVariables false
open Go.RowKit

def sumC (f : Nat → Int) : Nat → Int
  | 0 => 0
  | k + 1 => sumC f k + f k

theorem ixFrom_le (bs : Nat → Nat) (x : Nat) : ∀ d i, ixFrom bs x d i ≤ i + d := by
  intro d
  induction d with
  | zero => intro i; exact Nat.le_refl _
  | succ d ih =>
    intro i
    simp only [ixFrom]
    split
    · omega
    · have := ih (i + 1); omega
theorem ixFrom_all (bs : Nat → Nat) (x : Nat) : ∀ d i, ixFrom bs x d i = i + d → ∀ t, i ≤ t → t < i + d → key (bs t) < key x := by
  intro d
  induction d with
  | zero => intro i _ t h1 h2; omega
  | succ d ih =>
    intro i h t h1 h2
    simp only [ixFrom] at h
    split at h
    · omega
    · rename_i hk
      by_cases e : t = i
      · subst e; omega
      · exact ih (i + 1) (by omega) t (by omega) (by omega)

theorem sum_told {n : Nat} {bs : Nat → Nat} {g : Gau} {L : List Nat} (h : Told n bs g L) (k : Nat) : sumC g.cs k = (L.countP (fun x => nm x && decide (ixb n bs x < k)) : Nat) := by
  induction k with
  | zero =>
    have : L.countP (fun x => nm x && decide (ixb n bs x < 0)) = 0 := List.countP_eq_zero.2 (fun x _ => by simp)
    rw [this]; rfl
  | succ k ih =>
    have e : ∀ M : List Nat, M.countP (fun x => nm x && decide (ixb n bs x < k + 1)) = M.countP (fun x => nm x && decide (ixb n bs x < k)) + M.countP (fun x => nm x && ixb n bs x == k) := by
      intro M
      induction M with
      | nil => rfl
      | cons x M ihM =>
        simp only [List.countP_cons, ihM]
        have : (if (nm x && decide (ixb n bs x < k + 1)) = true then 1 else 0) = (if (nm x && decide (ixb n bs x < k)) = true then 1 else 0) + (if (nm x && ixb n bs x == k) = true then 1 else 0) := by
          cases nm x
          · simp
          · simp only [Bool.true_and, decide_eq_true_eq, beq_iff_eq]
            split <;> split <;> split <;> omega
        omega
    simp only [sumC]
    rw [ih, h.cs, e]; omega

theorem sum_count {n : Nat} {bs : Nat → Nat} {g : Gau} {L : List Nat} (h : Told n bs g L) : sumC g.cs (n + 1) = g.count := by
  rw [sum_told h, h.count]
  congr 1
  refine List.countP_congr fun x _ => ?_
  have := ixFrom_le bs x n 0
  have h2 : ixb n bs x < n + 1 := by unfold ixb; omega
  simp [h2]

theorem told_len {n : Nat} {bs : Nat → Nat} {g : Gau} {L : List Nat} (h : Told n bs g L) : g.count + g.nans = L.length := by
  rw [h.count, h.nans]
  have : ∀ M : List Nat, M.countP nm + M.countP (fun x => !nm x) = M.length := by
    intro M
    induction M with
    | nil => rfl
    | cons x M ih => simp only [List.countP_cons, List.length_cons]; cases nm x <;> simp <;> omega
  have := this L
  omega

theorem q_above {n : Nat} {bs : Nat → Nat} {g : Gau} {L : List Nat} (h : Told n bs g L) (hf : Fit n bs) : ∀ d i (r : Int), i + d = n → 0 < r → r ≤ g.count - sumC g.cs i → ∀ t, t < i → key (bs t) ≤ key (qFrom g d i r) := by
  intro d
  induction d with
  | zero =>
    intro i r hi h0 hr t ht
    have hin : i = n := by omega
    subst hin
    have hs := sum_count h
    simp only [sumC] at hs
    have hc : 0 < g.cs i := by omega
    rw [h.cs] at hc
    obtain ⟨x, hx, hp⟩ := List.countP_pos_iff.1 (show 0 < L.countP (fun x => nm x && ixb i bs x == i) from by omega)
    simp only [Bool.and_eq_true, beq_iff_eq] at hp
    have h1 := ixFrom_all bs x i 0 (by have := hp.2; unfold ixb at this; omega) t (Nat.zero_le _) (by omega)
    have h2 := h.gr2 x hx hp.1
    show _ ≤ key g.greatest
    omega
  | succ d ih =>
    intro i r hi h0 hr t ht
    simp only [qFrom]
    split
    · rw [h.hbs]; exact hf.le (by omega) (by omega)
    · exact ih (i + 1) _ (by omega) (by omega) (by simp only [sumC]; omega) t (by omega)

theorem q_mono {n : Nat} {bs : Nat → Nat} {g : Gau} {L : List Nat} (h : Told n bs g L) (hf : Fit n bs) : ∀ d i (r1 r2 : Int), i + d = n → 0 < r1 → r1 ≤ r2 → r2 ≤ g.count - sumC g.cs i → key (qFrom g d i r1) ≤ key (qFrom g d i r2) := by
  intro d
  induction d with
  | zero => intro i r1 r2 _ _ _ _; exact Nat.le_refl _
  | succ d ih =>
    intro i r1 r2 hi h0 h12 h2
    by_cases c1 : r1 - g.cs i ≤ 0
    · by_cases c2 : r2 - g.cs i ≤ 0
      · simp only [qFrom]; rw [if_pos c1, if_pos c2]; exact Nat.le_refl _
      · simp only [qFrom]; rw [if_pos c1, if_neg c2]
        have := q_above h hf d (i + 1) (r2 - g.cs i) (by omega) (by omega) (by simp only [sumC]; omega) i (by omega)
        rwa [h.hbs]
    · have c2 : ¬ r2 - g.cs i ≤ 0 := by omega
      simp only [qFrom]; rw [if_neg c1, if_neg c2]
      exact ih (i + 1) _ _ (by omega) (by omega) (by omega) (by simp only [sumC]; omega)

/-- Two parts of a count, one not above the other: so are the quantiles. -/
theorem quantile_mono {n : Nat} {bs : Nat → Nat} {g : Gau} {L : List Nat} (h : Told n bs g L) (hf : Fit n bs) {p q : Nat} (lp : p < 18446744073709551616) (lq : q < 18446744073709551616)
    (c0 : g.count ≠ 0) (c1 : g.count ≤ 1000000000) (hp : (Fl.ord p 0 == some .gt || Fl.ord p 0 == some .eq) = true) (hpq : (Fl.ord q p == some .gt || Fl.ord q p == some .eq) = true)
    (hq : (Fl.ord q 4607182418800017408 == some .lt || Fl.ord q 4607182418800017408 == some .eq) = true) :
    (quantile g p).2 = 0 ∧ (quantile g q).2 = 0 ∧ key (quantile g p).1 ≤ key (quantile g q).1 := by
  have np : Fl.num p := by
    by_cases hn : Fl.num p
    · exact hn
    · rw [Fl.ord_nan_l hn] at hp; cases hp
  have nq : Fl.num q := by
    by_cases hn : Fl.num q
    · exact hn
    · rw [Fl.ord_nan_l hn] at hq; cases hq
  have hp' := hp
  have hq' := hq
  rw [Fl.ge_num np Fl.zero_num, Fl.zero_val] at hp
  rw [Fl.ge_num nq np] at hpq
  rw [Fl.le_num nq Fl.one_fin.num, Fl.one_val] at hq
  have p0 := of_decide_eq_true hp
  have pq := of_decide_eq_true hpq
  have q1 := of_decide_eq_true hq
  have ip : isPart p = true := by
    unfold isPart
    rw [hp', Fl.le_num np Fl.one_fin.num, Fl.one_val, decide_eq_true (Int.le_trans pq q1)]; rfl
  have iq : isPart q = true := by
    unfold isPart
    rw [hq', Fl.ge_num nq Fl.zero_num, Fl.zero_val, decide_eq_true (Int.le_trans p0 pq)]; rfl
  have cc := h.count
  obtain ⟨k, hk⟩ : ∃ k : Nat, g.count = k := ⟨_, cc⟩
  have wm := want_mono (n := k) lp lq np nq p0 pq q1 (by omega) (by omega)
  have r1 := Fl.wantN_range (most := (k : Int)) (s := partW p k) (by omega)
  have r2 := Fl.wantN_range (most := (k : Int)) (s := partW q k) (by omega)
  have e1 : quantile g p = (qFrom g n 0 (Fl.wantN k (partW p k)), 0) := by unfold quantile; rw [if_pos ip, if_neg c0, hk, h.hn]
  have e2 : quantile g q = (qFrom g n 0 (Fl.wantN k (partW q k)), 0) := by unfold quantile; rw [if_pos iq, if_neg c0, hk, h.hn]
  rw [e1, e2]
  exact ⟨rfl, rfl, q_mono h hf n 0 _ _ (by omega) (by omega) wm (by rw [hk]; show _ ≤ (k : Int) - 0; omega)⟩
end Go.Proofs.Ytofjgnlolmaidaa
