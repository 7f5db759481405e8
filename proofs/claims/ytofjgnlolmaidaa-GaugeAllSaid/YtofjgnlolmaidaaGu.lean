/- Plain facts: a greater part of a count, a greater rank; the quantiles rise. -/
import Derived.Test.YtofjgnlolmaidaaGt
namespace Go.Proofs.Ytofjgnlolmaidaa
set_option linter.unusedVariables false
open Go.RowKit

theorem mul_word (d : Nat) (hd : d = 1074) {x y : Nat} (hx : Fl.fin x) (hy : Fl.fin y) : ∃ (s : Bool) (mag u : Nat) (place : Int), Ieee.double.mul x y = some (Fl.word s (Fl.nrung mag place)) ∧ place = -1074 + u - d ∧ mag * 2 ^ u = Fl.V (Fl.rg x) * Fl.V (Fl.rg y) := by
  obtain ⟨m, i, e1, b1, v1⟩ := Fl.read_fin hx
  obtain ⟨n, j, e2, b2, v2⟩ := Fl.read_fin hy
  refine ⟨(Fl.ng x ^^ Fl.ng y), m * n, (i + 1074).toNat + (j + 1074).toNat, i + j, ?_, by omega, ?_⟩
  · unfold Ieee.Format.mul
    rw [e1, e2]
    simp only [Ieee.Datum.product, Option.map_some, Ieee.Format.write, Fl.nearest_eq]
  · rw [v1, v2, Nat.pow_add, Nat.mul_assoc, Nat.mul_assoc, Nat.mul_left_comm n]

theorem part_mono {p q n : Nat} (lp : p < 18446744073709551616) (lq : q < 18446744073709551616) (hp : Fl.num p) (hq : Fl.num q) (p0 : 0 ≤ Fl.val p) (hpq : Fl.val p ≤ Fl.val q) (q1 : Fl.val q ≤ Fl.U) (n1 : 1 ≤ n) (hn : n < 9007199254740992) :
    Fl.val (partW p n) ≤ Fl.val (partW q n) := by
  have up := Fl.U_pos
  have hn' : (n : Int).natAbs < 9007199254740992 := by omega
  obtain ⟨a, ea, fa, la, a0, a1, ra⟩ := Fl.part_spec hp p0 (Int.le_trans hpq q1) hn
  obtain ⟨b, eb, fb, lb, b0, b1, rb⟩ := Fl.part_spec hq (Int.le_trans p0 hpq) q1 hn
  have epa : partW p n = a := by unfold partW; rw [ea]; rfl
  have epb : partW q n = b := by unfold partW; rw [eb]; rfl
  rw [epa, epb]
  by_cases z : Fl.val p = 0
  · have : Fl.val a = Fl.val 0 := ra.exact Fl.zero_num (by rw [z, Fl.zero_val, Int.zero_mul, Int.zero_mul])
    rw [this, Fl.zero_val]; exact b0
  · have fp : Fl.fin p := Fl.fin_of_val hp (k := 1) (by decide) (by show Fl.val p ≤ 1 * Fl.U; omega) (by show -(1 * Fl.U) ≤ Fl.val p; omega)
    have fq : Fl.fin q := Fl.fin_of_val hq (k := 1) (by decide) (by show Fl.val q ≤ 1 * Fl.U; omega) (by show -(1 * Fl.U) ≤ Fl.val q; omega)
    have sgn : ∀ x, 0 < Fl.val x → Fl.ng x = false ∧ Fl.val x = (Fl.V (Fl.rg x) : Int) := by
      intro x hx
      unfold Fl.val at hx ⊢
      by_cases h : Fl.ng x = true
      · rw [if_pos h] at hx; omega
      · exact ⟨by simpa using h, by rw [if_neg h]⟩
    obtain ⟨sp, vp⟩ := sgn p (by omega)
    obtain ⟨sq, vq⟩ := sgn q (by omega)
    rcases Nat.lt_or_ge (Fl.V (Fl.rg p)) (Fl.V (Fl.rg q)) with hlt | hge
    · obtain ⟨d, hd⟩ : ∃ d, d = 1074 := ⟨_, rfl⟩
      obtain ⟨s1, m1, u1, l1, f1, g1, k1⟩ := mul_word d hd fp (Fl.ofI_fin hn')
      obtain ⟨s2, m2, u2, l2, f2, g2, k2⟩ := mul_word d hd fq (Fl.ofI_fin hn')
      have vn : 0 < Fl.V (Fl.rg (Fl.ofI n)) := by
        have h1 := Fl.ofI_val hn'
        have h2 : 0 < Fl.val (Fl.ofI n) := by rw [h1]; exact Int.mul_pos (by omega) up
        have := (sgn _ h2).2
        omega
      have hm := Fl.nrung_mono m1 u1 m2 u2 d l1 l2 g1 g2 (by rw [k1, k2]; exact Nat.mul_lt_mul_of_pos_right hlt vn)
      have f1 := Option.some.inj (ea.symm.trans f1)
      have f2 := Option.some.inj (eb.symm.trans f2)
      have w1 : Fl.nrung m1 l1 < Fl.SGN := Nat.lt_of_le_of_lt (Fl.nrung_le _ _) Fl.INF_lt_SGN
      have w2 : Fl.nrung m2 l2 < Fl.SGN := Nat.lt_of_le_of_lt (Fl.nrung_le _ _) Fl.INF_lt_SGN
      have x1 : Fl.val a = (Fl.V (Fl.nrung m1 l1) : Int) := by
        have h := Fl.val_word s1 w1
        rw [← f1] at h
        cases s1
        · exact h
        · simp only [if_true] at h; omega
      have x2 : Fl.val b = (Fl.V (Fl.nrung m2 l2) : Int) := by
        have h := Fl.val_word s2 w2
        rw [← f2] at h
        cases s2
        · exact h
        · simp only [if_true] at h; omega
      rw [x1, x2]
      exact Int.ofNat_le.2 (Fl.V_le hm)
    · have : Fl.rg p = Fl.rg q := Fl.V_inj (by omega)
      have wp := Fl.word_rg p lp
      have wq := Fl.word_rg q lq
      rw [this, sp] at wp
      rw [sq] at wq
      have e : p = q := wp.symm.trans wq
      subst e
      have eb := Option.some.inj (ea.symm.trans eb)
      rw [eb]; exact Int.le_refl _

theorem want_mono {p q n : Nat} (lp : p < 18446744073709551616) (lq : q < 18446744073709551616) (hp : Fl.num p) (hq : Fl.num q) (p0 : 0 ≤ Fl.val p) (hpq : Fl.val p ≤ Fl.val q) (q1 : Fl.val q ≤ Fl.U) (n1 : 1 ≤ n) (hn : n < 9007199254740992) :
    Fl.wantN n (partW p n) ≤ Fl.wantN n (partW q n) := by
  have up := Fl.U_pos
  have hm := part_mono lp lq hp hq p0 hpq q1 n1 hn
  obtain ⟨a, ea, fa, la, a0, a1, ra⟩ := Fl.part_spec hp p0 (Int.le_trans hpq q1) hn
  obtain ⟨b, eb, fb, lb, b0, b1, rb⟩ := Fl.part_spec hq (Int.le_trans p0 hpq) q1 hn
  have epa : partW p n = a := by unfold partW; rw [ea]; rfl
  have epb : partW q n = b := by unfold partW; rw [eb]; rfl
  rw [epa, epb] at hm ⊢
  obtain ⟨x1, x2, x3⟩ := Fl.ceil_all fa a0 a1
  obtain ⟨y1, y2, y3⟩ := Fl.ceil_all fb b0 b1
  have hc : Fl.ceilN a ≤ Fl.ceilN b := by
    have h1 : ((Fl.ceilN a : Int) - 1) * Fl.U < Fl.ceilN b * Fl.U := Int.lt_of_lt_of_le x3 (Int.le_trans hm y2)
    have := Int.lt_of_mul_lt_mul_right h1 (Int.le_of_lt up)
    omega
  unfold Fl.wantN
  split <;> split <;> (try split) <;> (try split) <;> omega
end Go.Proofs.Ytofjgnlolmaidaa
