/- Plain facts: whole numbers of words up to a bound; a part of a count. -/
import Derived.Test.YtofjgnlolmaidaaFp
namespace Go.Proofs.Ytofjgnlolmaidaa.Fl
set_option linter.unusedVariables false
open Ieee

theorem ceil_all {s M : Nat} (hs : fin s) (h0 : 0 ≤ val s) (h1 : val s ≤ (M : Int) * U) :
    ceilN s ≤ M ∧ val s ≤ ceilN s * U ∧ ((ceilN s : Int) - 1) * U < val s := by
  have up := U_pos
  have hU : (C : Int) = U := C_cast
  have p := C_pos
  unfold ceilN
  by_cases hn : ng s = true
  · have e : val s = -(V (rg s) : Int) := by unfold val; rw [if_pos hn]
    have v0 : V (rg s) = 0 := by omega
    rw [e, v0, hn, Nat.zero_div]
    simp
    omega
  · have hv : val s = (V (rg s) : Int) := by unfold val; rw [if_neg hn]
    have hn' : ng s = false := by simpa using hn
    rw [hv] at h1 ⊢
    rw [hn']
    generalize V (rg s) = v at h1 ⊢
    generalize hc : C = c at p hU ⊢
    rw [← hU] at h1 ⊢
    have hdm := Nat.div_add_mod v c
    have hm := Nat.mod_lt v p
    generalize v / c = q at hdm ⊢
    generalize v % c = r at hdm hm ⊢
    have h1' : v ≤ M * c := by have : ((M * c : Nat) : Int) = (M : Int) * (c : Int) := Int.natCast_mul M c; omega
    have hq : q ≤ M := by
      refine Nat.le_of_not_lt fun hlt => ?_
      have : (M + 1) * c ≤ q * c := Nat.mul_le_mul_right c hlt
      rw [Nat.mul_comm q, Nat.add_mul, Nat.one_mul] at this
      omega
    have e1 : ((q : Nat) : Int) * (c : Int) = ((c * q : Nat) : Int) := by rw [Int.natCast_mul, Int.mul_comm]
    by_cases hr : r = 0
    · subst hr
      simp only [Bool.not_false, bne_self_eq_false, Bool.and_false, Bool.toNat_false, Nat.add_zero]
      refine ⟨hq, by rw [e1]; omega, ?_⟩
      rw [Int.sub_mul, e1]; omega
    · have hb : (!false && r != 0) = true := by simp [hr]
      rw [hb]; simp only [Bool.toNat_true]
      have hq2 : q < M := by
        refine Nat.lt_of_not_le fun hle => ?_
        have : M * c ≤ q * c := Nat.mul_le_mul_right c hle
        rw [Nat.mul_comm q] at this
        omega
      refine ⟨by omega, ?_, ?_⟩
      · rw [Int.natCast_add, Int.add_mul, e1]; omega
      · rw [Int.natCast_add, Int.sub_mul, Int.add_mul, e1]; omega

theorem ceilW_all {s M : Nat} (hs : fin s) (h0 : 0 ≤ val s) (h1 : val s ≤ (M : Int) * U) (hM : M < 9007199254740992) : fin (ceilW s) ∧ val (ceilW s) = ceilN s * U := by
  have hc := (ceil_all hs h0 h1).1
  rw [ceilW_eq hs]
  obtain ⟨w1, w2⟩ := nrung_whole (m := ceilN s) (by omega)
  have hlt : nrung (ceilN s) 0 < SGN := Nat.lt_trans w1 INF_lt_SGN
  refine ⟨by unfold fin; rw [rg_word _ hlt]; exact w1, ?_⟩
  rw [val_word _ hlt, w2]
  by_cases hn : ng s = true
  · have := ceilN_neg h0 hn
    rw [hn, this]; simp
  · rw [if_neg hn, Int.natCast_mul, C_cast]

theorem ceilW_geAll {s M : Nat} {n : Int} (hs : fin s) (h0 : 0 ≤ val s) (h1 : val s ≤ (M : Int) * U) (hM : M < 9007199254740992) (hn : n.natAbs < 9007199254740992) :
    (ord (ceilW s) (ofI n) == some .gt || ord (ceilW s) (ofI n) == some .eq) = decide (n ≤ ceilN s) := by
  obtain ⟨f, v⟩ := ceilW_all hs h0 h1 hM
  rw [ge_num f.num (ofI_fin hn).num, v, ofI_val hn, Bool.eq_iff_iff]
  simp only [decide_eq_true_eq]
  exact ⟨fun h => Int.le_of_mul_le_mul_right h U_pos, fun h => Int.mul_le_mul_of_nonneg_right h (Int.le_of_lt U_pos)⟩

theorem ceilW_intAll {s M : Nat} (hs : fin s) (h0 : 0 ≤ val s) (h1 : val s ≤ (M : Int) * U) (hM : M < 9007199254740992) : floatToIntVal .f64 (ceilW s) .i64 = some (ceilN s : Int) := by
  obtain ⟨f, _⟩ := ceilW_all hs h0 h1 hM
  have hc := (ceil_all hs h0 h1).1
  have e : (FloatKind.f64.decode (ceilW s)).toInt .zero = some (ceilN s : Int) := by
    show (double.read (ceilW s)).toInt .zero = _
    rw [toInt_fin f]
    obtain ⟨w1, w2⟩ := nrung_whole (m := ceilN s) (by omega)
    have hlt : nrung (ceilN s) 0 < SGN := Nat.lt_trans w1 INF_lt_SGN
    rw [ceilW_eq hs, rg_word _ hlt, ng_word _ hlt, w2]
    rw [Nat.mul_div_cancel _ C_pos]
    by_cases hn : ng s = true
    · rw [ceilN_neg h0 hn, hn]; rfl
    · rw [if_neg hn]
  unfold floatToIntVal
  rw [e]
  simp only
  rw [if_pos (by simp [IntKind.min, IntKind.max, IntKind.bits, IntKind.signed]; omega)]

/-- So great a part of a count: the product's word. -/
theorem part_spec {q : Nat} {n : Nat} (hq : num q) (q0 : 0 ≤ val q) (q1 : val q ≤ U) (hn : n < 9007199254740992) :
    ∃ p, double.mul q (ofI n) = some p ∧ fin p ∧ p < 18446744073709551616 ∧ 0 ≤ val p ∧ val p ≤ (n : Int) * U ∧ Rd (val q * ((n : Int) * U)) 1074 p := by
  have up := U_pos
  have fq : fin q := fin_of_val hq (k := 1) (by decide) (by show val q ≤ 1 * U; omega) (by show -(1 * U) ≤ val q; omega)
  have hn' : (n : Int).natAbs < 9007199254740992 := by omega
  have nU : (0 : Int) ≤ (n : Int) * U := Int.mul_nonneg (by omega) (by omega)
  obtain ⟨p, e, r⟩ := mul_fin fq (ofI_fin hn')
  rw [ofI_val hn'] at r
  have p0 := r.lo 0 zero_num (by rw [zero_val, Int.zero_mul]; exact Int.mul_nonneg q0 nU)
  have p1 := r.hi (ofI n) (ofI_fin hn').num (by
    rw [ofI_val hn', U_eq, Int.mul_comm (val q)]
    exact Int.mul_le_mul_of_nonneg_left q1 nU)
  rw [zero_val] at p0
  rw [ofI_val hn'] at p1
  exact ⟨p, e, fin_of_val r.isnum (k := n) hn p1 (by omega), r.lt, p0, p1, r⟩

end Go.Proofs.Ytofjgnlolmaidaa.Fl
