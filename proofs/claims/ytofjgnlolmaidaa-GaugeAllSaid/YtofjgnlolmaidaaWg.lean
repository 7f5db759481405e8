/- Walks through the package pace and what it calls: the contract of each function, of cells. -/
import Derived.Test.YtofjgnlolmaidaaWe
import Derived.Test.YtofjgnlolmaidaaFq
namespace Go.Proofs.Ytofjgnlolmaidaa
set_option linter.unusedVariables false
open Go.RowKit
attribute [local go_sem] run_store_float

theorem age0_val {x : Nat} (h : Fl.fin x) (h0 : 0 ≤ Fl.val x) : Fl.fin (age0 x) ∧ Fl.val (age0 x) = Fl.val x := by
  unfold age0
  rw [Fl.gt_num h.num Fl.zero_num, Fl.zero_val]
  by_cases c : 0 < Fl.val x
  · rw [decide_eq_true c]; exact ⟨h, rfl⟩
  · rw [decide_eq_false c]
    refine ⟨?_, ?_⟩
    · show Fl.fin 0; decide
    · show Fl.val 0 = _; rw [Fl.zero_val]; omega
theorem geB_num {x y : Nat} (hx : Fl.num x) (hy : Fl.num y) : geB x y = decide (Fl.val y ≤ Fl.val x) := Fl.ge_num hx hy

theorem planGo_true_age {most bytes : Int} {linger want : Nat} {n bs : Int} {age : Nat} (h : geB (age0 age) linger = true) : planGo most bytes linger want n bs age = true := by
  unfold planGo; rw [h]; simp
theorem planGo_true_n {most bytes : Int} {linger want : Nat} {n bs : Int} {age : Nat} (h : most ≤ n) : planGo most bytes linger want n bs age = true := by
  unfold planGo; simp [h]
theorem planGo_true_b {most bytes : Int} {linger want : Nat} {n bs : Int} {age : Nat} (h : bytes ≤ bs) : planGo most bytes linger want n bs age = true := by
  unfold planGo; simp [h]
theorem planGo_no {most bytes : Int} {linger want : Nat} {n bs : Int} {age : Nat} (h1 : ¬ most ≤ n) (h2 : ¬ bytes ≤ bs) (h3 : geB (age0 age) linger = false) (h4 : ¬ Fl.wantN most want ≤ n) : planGo most bytes linger want n bs age = false := by
  unfold planGo; rw [h3]; simp [h1, h2, h4]

theorem waits_seen : seenS 8 4607182418800017408 4607182418800017408 8 = 4620693217682128896 := by decide +kernel
theorem waits_want : Fl.wantN 8 4620693217682128896 = 8 := by decide +kernel
theorem one_may_tail : (Fl.ord 4607182418800017408 0 == some .gt) = true ∧ (Fl.ord 4607182418800017408 4607182418800017408 == some .lt || Fl.ord 4607182418800017408 4607182418800017408 == some .eq) = true := by decide +kernel
theorem top_is : Fl.ofI 1048576 = 4697254411347427328 := by decide +kernel

theorem quarter_may {L : Nat} {l : Nat} (hl : l < 65536) (fL : Fl.fin L) (vL : Fl.val L = l * Fl.Q) : May 8 1000 L 4607182418800017408 := by
  have q := Fl.Q_pos
  have h0 : (0 : Int) ≤ l * Fl.Q := Int.mul_nonneg (by omega) (by omega)
  have h1 : (l : Int) * Fl.Q ≤ 65536 * Fl.Q := Int.mul_le_mul_of_nonneg_right (by omega) (by omega)
  refine ⟨by decide, by decide, by decide, by decide, ?_, ?_, one_may_tail.1, one_may_tail.2⟩
  · rw [Fl.ge_num fL.num Fl.zero_num, Fl.zero_val]; exact decide_eq_true (by omega)
  · rw [← top_is, Fl.le_num fL.num (Fl.ofI_fin (by decide)).num, Fl.ofI_val (by decide), Fl.U_Q]; exact decide_eq_true (by omega)

/-- The numbers of a statement's call, the age below the length. -/
structure Waits (L A : Nat) (W W2 S T D : Nat) : Prop where
  go0 : ∀ n : Int, 0 ≤ n → n ≤ 7 → planGo 8 1000 (Fl.rg L) 4620693217682128896 n 10 A = false
  sub0 : Ieee.double.sub (Fl.rg L) (age0 A) = some W
  wait0 : planWait (Fl.rg L) A = W
  sub2 : Ieee.double.sub L A = some W2
  eq2 : (Fl.ord W W2 == some .eq) = true
  addS : Ieee.double.add A W = some S
  go1 : ∀ n : Int, planGo 8 1000 (Fl.rg L) 4620693217682128896 n 10 S = true
  subT : Ieee.double.sub S 4598175219545276416 = some T
  go2 : ∀ n : Int, 0 ≤ n → n ≤ 7 → planGo 8 1000 (Fl.rg L) 4620693217682128896 n 10 T = false
  subD : Ieee.double.sub (Fl.rg L) (age0 T) = some D

theorem waits_of {L A : Nat} {l a : Nat} (hl : l < 65536) (ha : a < l) (fL : Fl.fin L) (fA : Fl.fin A) (vL : Fl.val L = l * Fl.Q) (vA : Fl.val A = a * Fl.Q) :
    ∃ W W2 S T D, Waits L A W W2 S T D := by
  have q := Fl.Q_pos
  have nn : ∀ k : Nat, (0 : Int) ≤ k * Fl.Q := fun k => Int.mul_nonneg (by omega) (by omega)
  obtain ⟨r1, _, _⟩ := Fl.rg_val L (by rw [vL]; exact nn _)
  have fR := Fl.rg_fin fL
  rw [vL] at r1
  obtain ⟨f0, v0⟩ := age0_val fA (by rw [vA]; exact nn _)
  rw [vA] at v0
  obtain ⟨W, e1, fW, _, vW⟩ := Fl.sub_quarter fR f0 (by omega) (Nat.le_of_lt ha) r1 v0
  obtain ⟨W2, e2, fW2, _, vW2⟩ := Fl.sub_quarter fL fA (by omega) (Nat.le_of_lt ha) vL vA
  obtain ⟨S, e3, fS, _, vS⟩ := Fl.add_quarter fA fW (by omega) vA vW
  rw [show a + (l - a) = l from by omega] at vS
  obtain ⟨T, e4, fT, _, vT⟩ := Fl.sub_quarter (a := l) (b := 1) fS Fl.quarter_fin (by omega) (by omega) vS Fl.quarter_is
  obtain ⟨fs0, vs0⟩ := age0_val fS (by rw [vS]; exact nn _)
  obtain ⟨ft0, vt0⟩ := age0_val fT (by rw [vT]; exact nn _)
  rw [vT] at vt0
  obtain ⟨D, e5, _⟩ := Fl.sub_fin fR ft0
  have lt1 : (a : Int) * Fl.Q < l * Fl.Q := Int.mul_lt_mul_of_pos_right (by omega) q
  have lt2 : ((l - 1 : Nat) : Int) * Fl.Q < l * Fl.Q := Int.mul_lt_mul_of_pos_right (by omega) q
  have lt3 : (0 : Int) < ((l - a : Nat) : Int) * Fl.Q := Int.mul_pos (by omega) q
  refine ⟨W, W2, S, T, D, ?_, e1, ?_, e2, ?_, e3, ?_, e4, ?_, e5⟩
  · intro n h0 h7
    refine planGo_no (by omega) (by decide) ?_ (by rw [waits_want]; omega)
    rw [geB_num f0.num fR.num, r1, v0]; exact decide_eq_false (by omega)
  · unfold planWait; rw [e1]
    show (if (Fl.ord W 0 == some .gt) = true then W else 1) = W
    rw [Fl.gt_num fW.num Fl.zero_num, Fl.zero_val, vW, decide_eq_true lt3]; rfl
  · rw [Fl.eq_num fW.num fW2.num, vW, vW2]; exact decide_eq_true rfl
  · intro n
    refine planGo_true_age ?_
    rw [geB_num fs0.num fR.num, r1, vs0, vS]; exact decide_eq_true (Int.le_refl _)
  · intro n h0 h7
    refine planGo_no (by omega) (by decide) ?_ (by rw [waits_want]; omega)
    rw [geB_num ft0.num fR.num, r1, vt0]; exact decide_eq_false (by omega)

theorem run_field39 (g : Bool) (x : Nat) (w : World) : (Instr.field 39 (.agg #[.bool g, .float .f64 x]) 0).run Try.prog w = .ok (.bool g) w := by kernel_rfl

theorem good_eight : Good 4620693217682128896 := by
  rw [← waits_seen]; exact seenS_good good_one ⟨Fl.one_fin, by rw [Fl.one_val]; exact Fl.U_pos, by rw [Fl.one_val]; exact Int.le_refl _⟩ (by decide)

set_option maxRecDepth 100000 in
set_option maxHeartbeats 1000000 in
/-- The law's call. -/
theorem waits_any (l a : Nat) (n : Int) (hl : l < 65536) (ha : a < 65536) (w : World) :
    Calls Try.prog 5 #[.int .u16 l, .int .u16 a, .int .i64 n] w fun e w' => e = .returned (.bool true) ∧ Below w.heap.size w w' := by
  obtain ⟨L, dL, fL, lL, vL⟩ := Fl.div4_int l hl
  obtain ⟨A, dA, fA, lA, vA⟩ := Fl.div4_int a ha
  have may := quarter_may hl fL vL
  rw [← Fl.ofI_floatOfInt] at dL dA
  have r1 := fun w => run_float_arith (P := Try.prog) w .quo 25 .f64 _ _ L dL
  have r2 := fun w => run_float_arith (P := Try.prog) w .quo 25 .f64 _ _ A dA
  clear dL dA
  have q := Fl.Q_pos
  have nn : ∀ k : Nat, (0 : Int) ≤ k * Fl.Q := fun k => Int.mul_nonneg (by omega) (by omega)
  by_cases hn : 0 ≤ n ∧ n ≤ 7
  · obtain ⟨n0, n7⟩ := hn
    have n0' : ¬ n < 0 := by omega
    have n7' : ¬ 7 < n := by omega
    by_cases hal : l ≤ a
    · have hmul : (l : Int) * Fl.Q ≤ a * Fl.Q := Int.mul_le_mul_of_nonneg_right (by omega) (by omega)
      have t1 : (Fl.ord A L == some .gt || Fl.ord A L == some .eq) = true := by
        rw [Fl.ge_num fA.num fL.num, vL, vA]; exact decide_eq_true hmul
      have t2 := begun_eq0
      obtain ⟨rv, _, _⟩ := Fl.rg_val L (by rw [vL]; exact nn _)
      obtain ⟨f0, v0⟩ := age0_val fA (by rw [vA]; exact nn _)
      have go : planGo 8 1000 (Fl.rg L) 4620693217682128896 n 10 A = true := by
        refine planGo_true_age ?_
        rw [geB_num f0.num (Fl.rg_fin fL).num, rv, v0, vL, vA]; exact decide_eq_true hmul
      clear hmul vL vA rv v0
      go_enter Try.func5, Try.ntmps5
      go_wp2_with (first
        | (go_at_call 11; refine (begun_any _).mono ?_; rintro e w1 ⟨rfl, hb1⟩)
        | (go_at_call 13; refine (new_ok may lL _).mono ?_; rintro e w2 ⟨rfl, hp2, hs2, hb2⟩; have S2 := Lib.hid hs2; clear hs2)
        | (go_at_call 15; refine (seen_any 8 hp2 good_one (may_alpha may) (by decide) (by decide)).mono ?_; rintro e w3 ⟨rfl, hp3, hg3⟩; rw [waits_seen] at hp3)
        | (go_at_call 17; refine (plan_go n 10 A hp3 (by have := S2.out; have := hg3.size; omega) good_eight (by decide) (by decide) go).mono ?_; rintro e w4 ⟨rfl, hb4⟩))
      go_ret
      refine ⟨rfl, ?_⟩
      have l1 := hb1.size
      have s2 := S2.out
      have l3 := hg3.size
      have l4 := hb4.size
      exact (hb1.trans ((hb2.mono l1).trans ((grown_below hg3 (by omega) (by omega)).trans (hb4.mono (by omega))))).alloc (by omega) _
    · have hal' : a < l := by omega
      have hmul : (a : Int) * Fl.Q < l * Fl.Q := Int.mul_lt_mul_of_pos_right (by omega) q
      have t1 : (Fl.ord A L == some .gt || Fl.ord A L == some .eq) = false := by
        rw [Fl.ge_num fA.num fL.num, vL, vA]; exact decide_eq_false (by omega)
      obtain ⟨W, W2, S, T, D, ww⟩ := waits_of hl hal' fL fA vL vA
      clear hmul vL vA
      have eq2 := ww.eq2
      have rf := run_field39
      have r3 := fun w => run_float_arith (P := Try.prog) w .sub 25 .f64 _ _ W2 ww.sub2
      have r4 := fun w => run_float_arith (P := Try.prog) w .add 25 .f64 _ _ S ww.addS
      have r5 := fun w => run_float_arith (P := Try.prog) w .sub 25 .f64 _ _ T ww.subT
      go_enter Try.func5, Try.ntmps5
      go_wp2_with (first
        | (go_at_call 11; refine (begun_any _).mono ?_; rintro e w1 ⟨rfl, hb1⟩)
        | (go_at_call 13; refine (new_ok may lL _).mono ?_; rintro e w2 ⟨rfl, hp2, hs2, hb2⟩; have S2 := Lib.hid hs2; clear hs2)
        | (go_at_call 15; refine (seen_any 8 hp2 good_one (may_alpha may) (by decide) (by decide)).mono ?_; rintro e w3 ⟨rfl, hp3, hg3⟩; rw [waits_seen] at hp3))
      have l1 := hb1.size
      have l2 : w1.heap.size + 1 < w2.heap.size := by have := S2.out; omega
      have l3 := hg3.size
      refine (plan_wait n 10 A W hp3 (by omega) good_eight (by decide) (by decide) (ww.go0 n n0 n7) ww.sub0).mono ?_
      rintro e w4 ⟨rfl, hb4⟩
      rw [ww.wait0]
      have l4 := hb4.size
      have hp4 := hp3.below hb4 (by omega)
      have hB : Below w.heap.size w w4 := hb1.trans ((hb2.mono l1).trans ((grown_below hg3 (by omega) (by omega)).trans (hb4.mono (by omega))))
      clear hb1 hb2 hg3 hp2 hp3 hb4
      go_wp2_with fail
      refine (plan_go n 10 S (hp4.below ((Below.refl _ _).alloc (Nat.le_refl _) _) (by omega)) (by simp; omega) good_eight (by decide) (by decide) (ww.go1 n)).mono ?_
      rintro e w5 ⟨rfl, hb5⟩
      have hB5 := (Below.alloc hB (by omega) _).trans (hb5.mono (by simp; omega))
      have l5 := hb5.size
      have l5' : w4.heap.size < w5.heap.size := by simp at l5; omega
      have hp5 := hp4.below (((Below.refl _ _).alloc (Nat.le_refl _) _).trans (hb5.mono (by simp))) (by omega)
      have k1 : w5.cell? ⟨w4.heap.size, 1, none⟩ = some (.float .f64 W) := (hb5.cell (p := ⟨w4.heap.size, 1, none⟩) (by simp)).trans (cell_new _ _ _ _ _ rfl)
      clear hb5 l5
      go_wp2_with fail
      refine (plan_wait n 10 T D hp5 (by omega) good_eight (by decide) (by decide) (ww.go2 n n0 n7) ww.subD).mono ?_
      rintro e w6 ⟨rfl, hb6⟩
      have hB6 := hB5.trans (hb6.mono (by omega))
      have l6 := hb6.size
      have hp6 := hp5.below hb6 (by omega)
      clear hb6 k1
      go_wp2_with fail
      refine (plan_go 8 10 A hp6 (by omega) good_eight (by decide) (by decide) (planGo_true_n (by decide))).mono ?_
      rintro e w7 ⟨rfl, hb7⟩
      have hB7 := hB6.trans (hb7.mono (by omega))
      have l7 := hb7.size
      have hp7 := hp6.below hb7 (by omega)
      clear hb7
      go_wp2_with fail
      refine (plan_go n 1000 A hp7 (by omega) good_eight (by decide) (by decide) (planGo_true_b (by decide))).mono ?_
      rintro e w8 ⟨rfl, hb8⟩
      have hB8 := hB7.trans (hb8.mono (by omega))
      clear hb8
      go_wp2_with fail
      go_ret
      exact ⟨rfl, hB8⟩
  · have hn' : n < 0 ∨ (¬ n < 0 ∧ 7 < n) := by omega
    clear hn
    rcases hn' with c | ⟨c, d⟩
    all_goals
      go_enter Try.func5, Try.ntmps5
      go_wp2_with (first
        | (go_at_call 11; refine (begun_any _).mono ?_; rintro e w1 ⟨rfl, hb1⟩)
        | (go_at_call 13; refine (new_ok may lL _).mono ?_; rintro e w2 ⟨rfl, hp2, hs2, hb2⟩; have S2 := Lib.hid hs2; clear hs2)
        | (go_at_call 15; refine (seen_any 8 hp2 good_one (may_alpha may) (by decide) (by decide)).mono ?_; rintro e w3 ⟨rfl, hp3, hg3⟩))
      go_ret
      refine ⟨rfl, ?_⟩
      have l1 := hb1.size
      have s2 := S2.out
      exact hb1.trans ((hb2.mono l1).trans (grown_below hg3 (by omega) (by omega)))
end Go.Proofs.Ytofjgnlolmaidaa
