/- Walks through the package pace and what it calls: the contract of each function, of cells. -/
import Derived.Test.YtofjgnlolmaidaaWc
import Derived.Laws.BitsAllLaws
namespace Go.Proofs.Ytofjgnlolmaidaa
set_option linter.unusedVariables false
open Go.RowKit
attribute [local go_sem] run_store_float

theorem bits_abs {x : Nat} (h : x < 18446744073709551616) : bits .andNot .u64 (x : Int) 9223372036854775808 = ((Fl.rg x : Nat) : Int) := by
  have := u64_andNot_nat x 9223372036854775808 h (by omega)
  rw [show ((9223372036854775808 : Nat) : Int) = 9223372036854775808 from rfl] at this
  rw [this]
  congr 1
  rw [show 18446744073709551615 - 9223372036854775808 = 2 ^ 63 - 1 from rfl, Nat.and_two_pow_sub_one_eq_mod]; rfl

theorem abs_any {x : Nat} (h : x < 18446744073709551616) (w : World) : Calls Try.prog 41 #[.float .f64 x] w fun e w' => e = .returned (.float .f64 (Fl.rg x)) ∧ w = w' := by
  have h1 := ext45
  have h2 := ext19
  have h3 := bits_abs h
  clear h
  go_enter Try.func41, Try.ntmps41
  go_wp2
  go_ret
  exact ⟨rfl, rfl⟩

theorem alloc_at (w : World) (o : Obj) (n : Nat) (h : n = w.heap.size) : (w.alloc o).heap[n]? = some o := by
  subst h; show (w.heap.push o)[_]? = _; simp
theorem alloc_past (w : World) (o : Obj) (n : Nat) (h : n < w.heap.size) : (w.alloc o).heap[n]? = w.heap[n]? := Below.heap_alloc w o n h

theorem PaceAt.of_block {w : World} {b : Nat} {most bytes : Int} {linger alpha want : Nat}
    (h : w.heap[b]? = some (.cells #[.bool true, .int .i64 most, .int .i64 bytes, .float .f64 linger, .float .f64 alpha, .float .f64 want] 83)) : PaceAt w b most bytes linger alpha want :=
  have q : ∀ o, w.cell? ⟨b, o, none⟩ = #[.bool true, .int .i64 most, .int .i64 bytes, .float .f64 linger, .float .f64 alpha, .float .f64 want][o]? := fun o => by unfold World.cell?; simp [h]
  ⟨q 0, q 1, q 2, q 3, q 4, q 5, by unfold World.frozen?; simp [h]⟩

/-- The params are such. -/
structure May (most bytes : Int) (linger alpha : Nat) : Prop where
  m1 : 1 ≤ most
  m2 : most ≤ 256
  b1 : 1 ≤ bytes
  b2 : bytes ≤ 1048576
  l1 : (Fl.ord linger 0 == some .gt || Fl.ord linger 0 == some .eq) = true
  l2 : (Fl.ord linger 4697254411347427328 == some .lt || Fl.ord linger 4697254411347427328 == some .eq) = true
  a1 : (Fl.ord alpha 0 == some .gt) = true
  a2 : (Fl.ord alpha 4607182418800017408 == some .lt || Fl.ord alpha 4607182418800017408 == some .eq) = true

theorem not_may {most bytes : Int} {linger alpha : Nat} (h : ¬ May most bytes linger alpha) :
    most < 1 ∨ (¬ most < 1 ∧ 256 < most) ∨ (¬ most < 1 ∧ ¬ 256 < most ∧ bytes < 1) ∨ (¬ most < 1 ∧ ¬ 256 < most ∧ ¬ bytes < 1 ∧ 1048576 < bytes) ∨
    ((¬ most < 1 ∧ ¬ 256 < most ∧ ¬ bytes < 1 ∧ ¬ 1048576 < bytes) ∧
      ((Fl.ord linger 0 == some .gt || Fl.ord linger 0 == some .eq) = false ∨
      ((Fl.ord linger 0 == some .gt || Fl.ord linger 0 == some .eq) = true ∧ (Fl.ord linger 4697254411347427328 == some .lt || Fl.ord linger 4697254411347427328 == some .eq) = false) ∨
      ((Fl.ord linger 0 == some .gt || Fl.ord linger 0 == some .eq) = true ∧ (Fl.ord linger 4697254411347427328 == some .lt || Fl.ord linger 4697254411347427328 == some .eq) = true ∧ (Fl.ord alpha 0 == some .gt) = false) ∨
      ((Fl.ord linger 0 == some .gt || Fl.ord linger 0 == some .eq) = true ∧ (Fl.ord linger 4697254411347427328 == some .lt || Fl.ord linger 4697254411347427328 == some .eq) = true ∧ (Fl.ord alpha 0 == some .gt) = true ∧
        (Fl.ord alpha 4607182418800017408 == some .lt || Fl.ord alpha 4607182418800017408 == some .eq) = false))) := by
  by_cases c1 : most < 1
  · exact .inl c1
  by_cases c2 : 256 < most
  · exact .inr (.inl ⟨c1, c2⟩)
  by_cases c3 : bytes < 1
  · exact .inr (.inr (.inl ⟨c1, c2, c3⟩))
  by_cases c4 : 1048576 < bytes
  · exact .inr (.inr (.inr (.inl ⟨c1, c2, c3, c4⟩)))
  refine .inr (.inr (.inr (.inr ⟨⟨c1, c2, c3, c4⟩, ?_⟩)))
  cases l1 : (Fl.ord linger 0 == some .gt || Fl.ord linger 0 == some .eq)
  · exact .inl rfl
  cases l2 : (Fl.ord linger 4697254411347427328 == some .lt || Fl.ord linger 4697254411347427328 == some .eq)
  · exact .inr (.inl ⟨rfl, rfl⟩)
  cases a1 : (Fl.ord alpha 0 == some .gt)
  · exact .inr (.inr (.inl ⟨rfl, rfl, rfl⟩))
  cases a2 : (Fl.ord alpha 4607182418800017408 == some .lt || Fl.ord alpha 4607182418800017408 == some .eq)
  · exact .inr (.inr (.inr ⟨rfl, rfl, rfl, rfl⟩))
  exact absurd ⟨by omega, by omega, by omega, by omega, l1, l2, a1, a2⟩ h

set_option maxHeartbeats 1000000 in
theorem new_ok {most bytes : Int} {linger alpha : Nat} (h : May most bytes linger alpha) (hl : linger < 18446744073709551616) (w : World) :
    Calls Try.prog 13 #[.agg #[.int .i64 most, .int .i64 bytes, .float .f64 linger, .float .f64 alpha]] w fun e w' =>
      e = .returned (.tuple #[.pointer (some ⟨w.heap.size + 1, 0, none⟩), .int .i64 0]) ∧ PaceAt w' (w.heap.size + 1) most bytes (Fl.rg linger) alpha 4607182418800017408 ∧ w'.heap.size = w.heap.size + 2 ∧ Below w.heap.size w w' := by
  obtain ⟨m1, m2, b1, b2, l1, l2, a1, a2⟩ := h
  have c1 : ¬ most < 1 := by omega
  have c2 : ¬ 256 < most := by omega
  have c3 : ¬ bytes < 1 := by omega
  have c4 : ¬ 1048576 < bytes := by omega
  go_enter Try.func13, Try.ntmps13
  go_wp2_with (go_at_call 41; refine (abs_any hl _).mono ?_; rintro e w' ⟨rfl, rfl⟩)
  go_ret2
  refine ⟨rfl, PaceAt.of_block (alloc_at _ _ _ (by simp)), by simp, ?_⟩
  exact ((Below.refl _ _).alloc (Nat.le_refl _) _).alloc (by simp) _

set_option maxHeartbeats 2000000 in
theorem new_bad {most bytes : Int} {linger alpha : Nat} (h : ¬ May most bytes linger alpha) (w : World) :
    Calls Try.prog 13 #[.agg #[.int .i64 most, .int .i64 bytes, .float .f64 linger, .float .f64 alpha]] w fun e w' =>
      e = .returned (.tuple #[.pointer none, .int .i64 1]) ∧ Below w.heap.size w w' := by
  rcases not_may h with c | ⟨c, d⟩ | ⟨c, d, e⟩ | ⟨c, d, e, f⟩ | ⟨⟨c, d, e, f⟩, k | ⟨k, l⟩ | ⟨k, l, m⟩ | ⟨k, l, m, n⟩⟩
  all_goals
    clear h
    go_enter Try.func13, Try.ntmps13
    go_wp2
    go_ret2
    exact ⟨rfl, (Below.refl _ _).alloc (Nat.le_refl _) _⟩
end Go.Proofs.Ytofjgnlolmaidaa
