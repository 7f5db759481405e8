/- Walks through PaceRises: what goes, goes with more; what waits, waits a time above 0 and at most Linger. The plain part first. -/
import Derived.Test.YtofjgnlolmaidaaWg
namespace Go.Proofs.Ytofjgnlolmaidaa
set_option linter.unusedVariables false
open Go.RowKit
attribute [local go_sem] run_store_float

theorem may_linger {most bytes : Int} {linger alpha : Nat} (h : May most bytes linger alpha) : Fl.fin linger ∧ 0 ≤ Fl.val linger ∧ Fl.val linger ≤ 1048576 * Fl.U := by
  have l1 := h.l1
  have l2 := h.l2
  have up := Fl.U_pos
  have hn : Fl.num linger := by
    by_cases hn : Fl.num linger
    · exact hn
    · rw [Fl.ord_nan_l hn] at l1; cases l1
  rw [Fl.ge_num hn Fl.zero_num, Fl.zero_val] at l1
  rw [← top_is, Fl.le_num hn (Fl.ofI_fin (by decide)).num, Fl.ofI_val (by decide)] at l2
  have l1 := of_decide_eq_true l1
  have l2 := of_decide_eq_true l2
  exact ⟨Fl.fin_of_val hn (k := 1048576) (by decide) (by show Fl.val linger ≤ 1048576 * Fl.U; omega) (by show -(1048576 * Fl.U) ≤ Fl.val linger; omega), l1, l2⟩

theorem age0_num (x : Nat) : Fl.num (age0 x) ∧ 0 ≤ Fl.val (age0 x) := by
  unfold age0
  by_cases hx : Fl.num x
  · rw [Fl.gt_num hx Fl.zero_num, Fl.zero_val]
    by_cases c : 0 < Fl.val x
    · rw [decide_eq_true c]; exact ⟨hx, Int.le_of_lt c⟩
    · rw [decide_eq_false c]; exact ⟨Fl.zero_num, by show 0 ≤ Fl.val 0; rw [Fl.zero_val]; exact Int.le_refl _⟩
  · rw [Fl.ord_nan_l hx]; exact ⟨Fl.zero_num, by show 0 ≤ Fl.val 0; rw [Fl.zero_val]; exact Int.le_refl _⟩

theorem age0_nan {x : Nat} (hx : ¬ Fl.num x) : age0 x = 0 := by unfold age0; rw [Fl.ord_nan_l hx]; rfl
theorem age0_zero : age0 0 = 0 := by decide +kernel

theorem age0_mono {x y : Nat} (hx : Fl.num x) (hy : Fl.num y) (h : Fl.val x ≤ Fl.val y) : Fl.val (age0 x) ≤ Fl.val (age0 y) := by
  unfold age0
  rw [Fl.gt_num hx Fl.zero_num, Fl.gt_num hy Fl.zero_num, Fl.zero_val]
  by_cases c : 0 < Fl.val x
  · rw [decide_eq_true c, decide_eq_true (by omega : 0 < Fl.val y)]; exact h
  · rw [decide_eq_false c]
    by_cases d : 0 < Fl.val y
    · rw [decide_eq_true d]; show Fl.val 0 ≤ Fl.val y; rw [Fl.zero_val]; omega
    · rw [decide_eq_false d]; exact Int.le_refl _

theorem planGo_mono {most bytes : Int} {l want : Nat} {n n' b b' : Int} {x y : Nat} (hl : Fl.num l) (hn : n ≤ n') (hb : b ≤ b') (ha : Fl.val (age0 x) ≤ Fl.val (age0 y))
    (h : planGo most bytes l want n b x = true) : planGo most bytes l want n' b' y = true := by
  rcases planGo_cases h with c | ⟨_, c⟩ | ⟨_, _, c⟩ | ⟨_, _, _, c, d⟩
  · exact planGo_true_n (by omega)
  · exact planGo_true_b (by omega)
  · refine planGo_true_age ?_
    rw [geB_num (age0_num _).1 hl] at c ⊢
    have c := of_decide_eq_true c
    exact decide_eq_true (by omega)
  · unfold planGo
    simp only [Bool.or_eq_true, Bool.and_eq_true, decide_eq_true_eq]
    exact .inr (.inr (.inr ⟨by omega, by omega⟩))

/-- What a plan that waits tells: a time above 0 and at most Linger. -/
theorem wait_facts {most bytes : Int} {l want : Nat} {n b : Int} {x : Nat} (fl : Fl.fin l) (h0 : 0 ≤ Fl.val l) (h : planGo most bytes l want n b x = false) :
    ∃ d, Ieee.double.sub l (age0 x) = some d ∧ Fl.num (planWait l x) ∧ 0 < Fl.val (planWait l x) ∧ Fl.val (planWait l x) ≤ Fl.val l := by
  obtain ⟨_, _, c, _⟩ := planGo_false h
  obtain ⟨na, pa⟩ := age0_num x
  rw [geB_num na fl.num] at c
  have c := of_decide_eq_false c
  have fa : Fl.fin (age0 x) := by
    rcases Nat.lt_or_eq_of_le na with e | e
    · exact e
    · exfalso
      have hv := Fl.val_inf e
      have := Fl.val_bound fl
      split at hv <;> omega
  obtain ⟨d, e, r⟩ := Fl.sub_fin fl fa
  have hd : Fl.val d ≤ Fl.val l := r.hi l fl.num (by rw [Fl.pow_zero_int]; omega)
  have hw : planWait l x = if (Fl.ord d 0 == some .gt) = true then d else 1 := by unfold planWait; rw [e]; rfl
  refine ⟨d, e, ?_⟩
  rw [hw, Fl.gt_num r.isnum Fl.zero_num, Fl.zero_val]
  by_cases p : 0 < Fl.val d
  · rw [decide_eq_true p]; exact ⟨r.isnum, p, hd⟩
  · rw [decide_eq_false p]
    have v1 : Fl.val 1 = 1 := by decide
    have n1 : Fl.num 1 := by decide
    exact ⟨n1, by show 0 < Fl.val 1; rw [v1]; omega, by show Fl.val 1 ≤ _; rw [v1]; omega⟩

theorem run_max_float {x y : Nat} (hx : Fl.num x) (hy : Fl.num y) (ts : Array TypeId) (t : TypeId) :
    ∃ M, Fl.num M ∧ Fl.val x ≤ Fl.val M ∧ ∀ w : World, (Builtin.max_ ts t #[.float .f64 x, .float .f64 y]).run Try.prog w = .ok (.float .f64 M) w := by
  have ho := Fl.order_num hx hy
  have key : ∀ w : World, (Builtin.max_ ts t #[.float .f64 x, .float .f64 y]).run Try.prog w = (Builtin.max2 (.float .f64 x) (.float .f64 y)).run Try.prog w := by
    intro w; simp [Builtin.max_]
  rcases Int.lt_trichotomy (Fl.val x) (Fl.val y) with h | h | h
  · rw [Int.compare_eq_lt.2 h] at ho
    refine ⟨y, hy, Int.le_of_lt h, fun w => ?_⟩
    rw [key]; unfold Builtin.max2
    simp only [FloatKind.format, ho]; rfl
  · rw [Int.compare_eq_eq.2 h] at ho
    refine ⟨if (FloatKind.f64.decode x).neg then y else x, by split <;> assumption, by split <;> omega, fun w => ?_⟩
    rw [key]; unfold Builtin.max2
    simp only [FloatKind.format, ho]; rfl
  · rw [Int.compare_eq_gt.2 h] at ho
    refine ⟨x, hx, Int.le_refl _, fun w => ?_⟩
    rw [key]; unfold Builtin.max2
    simp only [FloatKind.format, ho]; rfl

theorem of_any (most bytes l a : Int) (w : World) : Calls Try.prog 12 #[.int .i64 most, .int .i64 bytes, .int .u64 l, .int .u64 a] w fun e w' =>
    e = .returned (.agg #[.int .i64 most, .int .i64 bytes, .float .f64 l.toNat, .float .f64 a.toNat]) ∧ Below w.heap.size w w' := by
  have h := ext19
  go_enter Try.func12, Try.ntmps12
  go_wp2
  exact bodyPost_ret (v := .agg #[.int .i64 most, .int .i64 bytes, .float .f64 l.toNat, .float .f64 a.toNat]) (by simp [results, Try.results12, go_sem]) rfl ⟨rfl, by exact (((Below.refl _ _).alloc (Nat.le_refl _) _))⟩

theorem isNaN_any (x : Nat) (w : World) : Calls Try.prog 23 #[.float .f64 x] w fun e w' => e = .returned (.bool (!decide (Fl.num x))) ∧ w = w' := by
  by_cases h : Fl.num x
  · have h1 := Fl.neq_self_num h
    have H : Hid ((!decide (Fl.num x)) = false) := Lib.hid (by rw [decide_eq_true h]; rfl)
    clear h
    go_enter Try.func23, Try.ntmps23
    go_wp2
    go_ret
    exact ⟨by rw [H.out]; rfl, rfl⟩
  · have h1 := Fl.neq_self_nan h
    have H : Hid ((!decide (Fl.num x)) = true) := Lib.hid (by rw [decide_eq_false h]; rfl)
    clear h
    go_enter Try.func23, Try.ntmps23
    go_wp2
    go_ret
    exact ⟨by rw [H.out]; rfl, rfl⟩
end Go.Proofs.Ytofjgnlolmaidaa
