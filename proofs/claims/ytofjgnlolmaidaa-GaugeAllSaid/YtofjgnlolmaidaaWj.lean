/- Walks through the document's own pace (flumeref18) and what it calls. -/
import Derived.Test.YtofjgnlolmaidaaWh
import Derived.Deep.RegionWith
import Derived.Laws.BitsAllLaws
import Derived.Laws.FloatBits
namespace Go.Proofs.Ytofjgnlolmaidaa
set_option linter.unusedVariables false
open Go.RowKit
attribute [local go_sem] run_store_float

/-- What the reference's block holds. -/
structure RefAt (w : World) (b : Nat) (most bytes : Int) (linger alpha want : Nat) : Prop where
  c0 : w.cell? ⟨b, 0, none⟩ = some (.int .i64 most)
  c1 : w.cell? ⟨b, 1, none⟩ = some (.int .i64 bytes)
  c2 : w.cell? ⟨b, 2, none⟩ = some (.float .f64 linger)
  c3 : w.cell? ⟨b, 3, none⟩ = some (.float .f64 alpha)
  c4 : w.cell? ⟨b, 4, none⟩ = some (.float .f64 want)
  fz : w.frozen? ⟨b, 4, none⟩ = false

theorem RefAt.drewN {w : World} {b : Nat} {most bytes : Int} {linger alpha want : Nat} (h : RefAt w b most bytes linger alpha want) (n : Nat) : RefAt (w.drewN n) b most bytes linger alpha want :=
  ⟨h.c0, h.c1, h.c2, h.c3, h.c4, h.fz⟩
theorem RefAt.set {w : World} {b : Nat} {most bytes : Int} {linger alpha want : Nat} (h : RefAt w b most bytes linger alpha want) (r : Nat) : RefAt (w.setCell ⟨b, 4, none⟩ (.float .f64 r)) b most bytes linger alpha r :=
  ⟨by rw [cell_other _ (by simp)]; exact h.c0, by rw [cell_other _ (by simp)]; exact h.c1, by rw [cell_other _ (by simp)]; exact h.c2,
   by rw [cell_other _ (by simp)]; exact h.c3, cell_same _ h.c4, by simpa using h.fz⟩
theorem RefAt.below {w w' : World} {B b : Nat} {most bytes : Int} {linger alpha want : Nat} (h : RefAt w b most bytes linger alpha want) (hB : Below B w w') (hb : b < B) : RefAt w' b most bytes linger alpha want :=
  have q : ∀ o, w'.cell? ⟨b, o, none⟩ = w.cell? ⟨b, o, none⟩ := fun o => hB.cell (p := ⟨b, o, none⟩) hb
  ⟨(q 0).trans h.c0, (q 1).trans h.c1, (q 2).trans h.c2, (q 3).trans h.c3, (q 4).trans h.c4, (hB.frozen (p := ⟨b, 4, none⟩) hb).trans h.fz⟩
theorem RefAt.grown {w w' : World} {row : Option Nat} {b : Nat} {most bytes : Int} {linger alpha want : Nat} (h : RefAt w b most bytes linger alpha want) (hg : w.grownBy w' row) (hb : b < w.heap.size) (hr : some b ≠ row) : RefAt w' b most bytes linger alpha want :=
  have hk := hg.block b hb hr
  have q : ∀ o, w'.cell? ⟨b, o, none⟩ = w.cell? ⟨b, o, none⟩ := fun o => World.cell?_of_block (w := w) (a := ⟨b, o, none⟩) hk
  ⟨(q 0).trans h.c0, (q 1).trans h.c1, (q 2).trans h.c2, (q 3).trans h.c3, (q 4).trans h.c4, (World.frozen?_of_block (w := w) (a := ⟨b, 4, none⟩) hk).trans h.fz⟩
theorem RefAt.of_block {w : World} {b : Nat} {most bytes : Int} {linger alpha want : Nat}
    (h : w.heap[b]? = some (.cells #[.int .i64 most, .int .i64 bytes, .float .f64 linger, .float .f64 alpha, .float .f64 want] 86)) : RefAt w b most bytes linger alpha want :=
  have q : ∀ o, w.cell? ⟨b, o, none⟩ = #[.int .i64 most, .int .i64 bytes, .float .f64 linger, .float .f64 alpha, .float .f64 want][o]? := fun o => by unfold World.cell?; simp [h]
  ⟨q 0, q 1, q 2, q 3, q 4, by unfold World.frozen?; simp [h]⟩

instance (most bytes : Int) (linger alpha : Nat) : Decidable (May most bytes linger alpha) :=
  if h : (1 ≤ most ∧ most ≤ 256) ∧ (1 ≤ bytes ∧ bytes ≤ 1048576) ∧ ((Fl.ord linger 0 == some .gt || Fl.ord linger 0 == some .eq) = true ∧ (Fl.ord linger 4697254411347427328 == some .lt || Fl.ord linger 4697254411347427328 == some .eq) = true) ∧
      ((Fl.ord alpha 0 == some .gt) = true ∧ (Fl.ord alpha 4607182418800017408 == some .lt || Fl.ord alpha 4607182418800017408 == some .eq) = true)
  then .isTrue ⟨h.1.1, h.1.2, h.2.1.1, h.2.1.2, h.2.2.1.1, h.2.2.1.2, h.2.2.2.1, h.2.2.2.2⟩
  else .isFalse fun k => h ⟨⟨k.m1, k.m2⟩, ⟨k.b1, k.b2⟩, ⟨k.l1, k.l2⟩, ⟨k.a1, k.a2⟩⟩

set_option maxHeartbeats 1000000 in
theorem may_yes {most bytes : Int} {linger alpha : Nat} (h : May most bytes linger alpha) (w : World) :
    Calls Try.prog 42 #[.agg #[.int .i64 most, .int .i64 bytes, .float .f64 linger, .float .f64 alpha]] w fun e w' => e = .returned (.bool true) ∧ Below w.heap.size w w' := by
  obtain ⟨m1, m2, b1, b2, l1, l2, a1, a2⟩ := h
  go_enter Try.func42, Try.ntmps42
  go_wp2
  go_ret
  exact ⟨rfl, (Below.refl _ _).alloc (Nat.le_refl _) _⟩

set_option maxHeartbeats 2000000 in
theorem may_no {most bytes : Int} {linger alpha : Nat} (h : ¬ May most bytes linger alpha) (w : World) :
    Calls Try.prog 42 #[.agg #[.int .i64 most, .int .i64 bytes, .float .f64 linger, .float .f64 alpha]] w fun e w' => e = .returned (.bool false) ∧ Below w.heap.size w w' := by
  rcases not_may h with c | ⟨c, d⟩ | ⟨c, d, e⟩ | ⟨c, d, e, f⟩ | ⟨⟨c, d, e, f⟩, k | ⟨k, l⟩ | ⟨k, l, m⟩ | ⟨k, l, m, n⟩⟩
  all_goals
    clear h
    go_enter Try.func42, Try.ntmps42
    go_wp2
    go_ret
    exact ⟨rfl, (Below.refl _ _).alloc (Nat.le_refl _) _⟩

theorem refnew_bad {most bytes : Int} {linger alpha : Nat} (h : ¬ May most bytes linger alpha) (w : World) :
    Calls Try.prog 14 #[.agg #[.int .i64 most, .int .i64 bytes, .float .f64 linger, .float .f64 alpha]] w fun e w' =>
      e = .returned (.tuple #[.pointer none, .int .i64 1]) ∧ Below w.heap.size w w' := by
  go_enter Try.func14, Try.ntmps14
  go_wp2_with (go_at_call 42; refine (may_no h _).mono ?_; rintro e w1 ⟨rfl, hb1⟩)
  go_ret2
  exact ⟨rfl, ((Below.refl _ _).alloc (Nat.le_refl _) _).trans (hb1.mono (by simp))⟩

theorem cells_of_block {w : World} {b : Nat} {c : Array Value} {t : TypeId} {fr : Nat × Nat} (h : w.heap[b]? = some (.cells c t fr)) (i : Nat) : w.cell? ⟨b, i, none⟩ = c[i]? := by
  unfold World.cell?; simp [h]

theorem refnew_ok {most bytes : Int} {linger alpha : Nat} (h : May most bytes linger alpha) (w : World) :
    Calls Try.prog 14 #[.agg #[.int .i64 most, .int .i64 bytes, .float .f64 linger, .float .f64 alpha]] w fun e w' =>
      ∃ b, e = .returned (.tuple #[.pointer (some ⟨b, 0, none⟩), .int .i64 0]) ∧ RefAt w' b most bytes linger alpha 4607182418800017408 ∧ w.heap.size ≤ b ∧ b < w'.heap.size ∧ Below w.heap.size w w' := by
  go_enter Try.func14, Try.ntmps14
  go_wp2_with fail
  refine (may_yes h _).mono ?_
  rintro e w1 ⟨rfl, hb1⟩
  have o1 := (hb1.block _ (by simp)).trans (alloc_at w (.cells #[.int .i64 most, .int .i64 bytes, .float .f64 linger, .float .f64 alpha] 27) _ rfl)
  have e0 := cells_of_block o1
  have k0 : w1.cell? ⟨w.heap.size, 0, none⟩ = some (.int .i64 most) := e0 0
  have k1 : w1.cell? ⟨w.heap.size, 1, none⟩ = some (.int .i64 bytes) := e0 1
  have k2 : w1.cell? ⟨w.heap.size, 2, none⟩ = some (.float .f64 linger) := e0 2
  have k3 : w1.cell? ⟨w.heap.size, 3, none⟩ = some (.float .f64 alpha) := e0 3
  have hl := hb1.size
  have hB := ((Below.refl w.heap.size w).alloc (Nat.le_refl _) _).trans (hb1.mono (by simp))
  clear hb1 o1 e0
  go_wp2_with fail
  go_ret2
  simp at hl
  exact ⟨_, rfl, RefAt.of_block (alloc_at _ _ _ rfl), by omega, by simp, hB.alloc (by omega) _⟩

theorem bits_rg {x : Nat} (h : x < 18446744073709551616) : bits .and .u64 (x : Int) 9223372036854775807 = ((Fl.rg x : Nat) : Int) := by
  have := u64_and_nat x 9223372036854775807 h (by omega)
  rw [show ((9223372036854775807 : Nat) : Int) = 9223372036854775807 from rfl] at this
  rw [this]
  congr 1
  rw [show 9223372036854775807 = 2 ^ 63 - 1 from rfl, Nat.and_two_pow_sub_one_eq_mod]; rfl

theorem nan_no {x : Nat} (hx : Fl.num x) (h : x < 18446744073709551616) (w : World) : Calls Try.prog 48 #[.float .f64 x] w fun e w' => e = .returned (.bool false) ∧ w = w' := by
  have h1 := ext45
  have h3 := bits_rg h
  have h4 : ((Fl.rg x : Nat) : Int) ≤ 9218868437227405312 := by have : Fl.rg x ≤ 9218868437227405312 := hx; omega
  clear h hx
  go_enter Try.func48, Try.ntmps48
  go_wp2
  go_ret
  refine ⟨?_, rfl⟩
  simp; omega
theorem nan_yes {x : Nat} (hx : ¬ Fl.num x) (h : x < 18446744073709551616) (w : World) : Calls Try.prog 48 #[.float .f64 x] w fun e w' => e = .returned (.bool true) ∧ w = w' := by
  have h1 := ext45
  have h3 := bits_rg h
  have h4 : (9218868437227405312 : Int) < ((Fl.rg x : Nat) : Int) := by have : ¬ Fl.rg x ≤ 9218868437227405312 := hx; omega
  clear h hx
  go_enter Try.func48, Try.ntmps48
  go_wp2
  go_ret
  refine ⟨?_, rfl⟩
  simp
theorem refcanon_any {x : Nat} (h : x < 18446744073709551616) (w : World) : Calls Try.prog 49 #[.float .f64 x] w fun e w' => e = .returned (.float .f64 (Fl.canon x)) ∧ w = w' := by
  have h2 := ext19
  by_cases hx : Fl.num x
  · have H : Hid (Fl.canon x = x) := Lib.hid (if_pos hx)
    go_enter Try.func49, Try.ntmps49
    go_wp2_with (go_at_call 48; refine (nan_no hx h _).mono ?_; rintro e w' ⟨rfl, rfl⟩)
    go_ret
    exact ⟨by rw [H.out]; rfl, rfl⟩
  · have H : Hid (Fl.canon x = 9221120237041090561) := Lib.hid (if_neg hx)
    go_enter Try.func49, Try.ntmps49
    go_wp2_with (go_at_call 48; refine (nan_yes hx h _).mono ?_; rintro e w' ⟨rfl, rfl⟩)
    go_ret
    exact ⟨by rw [H.out]; rfl, rfl⟩

theorem add_lt64 {x y r : Nat} (h : Ieee.double.add x y = some r) : r < 18446744073709551616 := Ieee.double.add_lt h

/-- The reference's smoothing step, all operations valid. -/
theorem refsmooth_ok {v x a d y r : Nat} (ha : (Fl.ord a 0 == some .gt) = true) (hb : (Fl.ord a 4607182418800017408 == some .lt || Fl.ord a 4607182418800017408 == some .eq) = true)
    (hx : Fl.num x) (lx : x < 18446744073709551616) (hv : Fl.num v) (lv : v < 18446744073709551616) (e1 : Ieee.double.sub x v = some d) (e2 : Ieee.double.mul a d = some y) (e3 : Ieee.double.add v y = some r) (w : World) :
    Calls Try.prog 26 #[.float .f64 v, .float .f64 x, .float .f64 a] w fun e w' => e = .returned (.tuple #[.float .f64 (Fl.canon r), .int .i64 0]) ∧ w = w' := by
  have lr := add_lt64 e3
  have r1 := fun w => run_float_arith (P := Try.prog) w .sub 25 .f64 x v d e1
  have r2 := fun w => run_float_arith (P := Try.prog) w .mul 25 .f64 a d y e2
  have r3 := fun w => run_float_arith (P := Try.prog) w .add 25 .f64 v y r e3
  clear e1 e2 e3
  go_enter Try.func26, Try.ntmps26
  go_wp2_with fail
  refine (nan_no hx lx _).mono ?_
  rintro e w' ⟨rfl, rfl⟩
  go_wp2_with fail
  refine (nan_no hv lv _).mono ?_
  rintro e w' ⟨rfl, rfl⟩
  go_wp2_with (go_at_call 49; refine (refcanon_any lr _).mono ?_; rintro e w' ⟨rfl, rfl⟩)
  go_ret2
  exact ⟨rfl, rfl⟩

set_option maxHeartbeats 1000000 in
theorem refseen_any {w : World} {b : Nat} {most bytes : Int} {linger alpha want : Nat} (n : Int) (h : RefAt w b most bytes linger alpha want) (g : Good want) (lw : want < 18446744073709551616) (ha : Alpha alpha) (m1 : 1 ≤ most) (m2 : most ≤ 256) :
    Calls Try.prog 18 #[.pointer (some ⟨b, 0, none⟩), .int .i64 n] w fun e w' => e = .returned (.tuple #[]) ∧ RefAt w' b most bytes linger alpha (seenS most alpha want n) ∧ w.grownBy w' (some b) := by
  have h0 := h.c0
  have h3 := h.c3
  have h4 := h.c4
  have hf := h.fz
  by_cases c : 1 ≤ n ∧ n ≤ most
  · obtain ⟨c1, c2⟩ := c
    obtain ⟨d, y, e1, e2, e3, _, e4⟩ := step_spec g ha c1 (by omega : n ≤ 256)
    have H : Hid (seenS most alpha want n = step alpha want n) := Lib.hid (by unfold seenS; rw [if_pos ⟨c1, c2⟩])
    have S := fun w => refsmooth_ok ha.gt ha.le (Fl.ofI_fin (n := n) (by omega)).num (Fl.ofI_lt (by omega)) g.f.num lw e1 e2 e3 w
    rw [e4] at S
    rw [← Fl.ofI_floatOfInt] at S
    clear e1 e2 e3 e4
    go_enter Try.func18, Try.ntmps18
    go_wp2_with fail
    go_region_with (go_at_call 26; refine (S _).mono ?_; rintro e w' ⟨rfl, rfl⟩)
    all_goals
      go_wp2
      go_end0
      refine ⟨rfl, ?_, ?_⟩
      · rw [H.out]; exact (h.drewN 1).set _
      · exact only_setCell (only_drewN (only_refl _ _) 1) (.inl rfl) _
  · have H : Hid (seenS most alpha want n = want) := Lib.hid (by unfold seenS; rw [if_neg c])
    by_cases c1 : n < 1
    · clear c
      go_enter Try.func18, Try.ntmps18
      go_wp2_with fail
      go_end0
      refine ⟨rfl, ?_, only_refl _ _⟩
      rw [H.out]; exact h
    · have c2 : most < n := by omega
      clear c
      go_enter Try.func18, Try.ntmps18
      go_wp2_with fail
      go_end0
      refine ⟨rfl, ?_, only_refl _ _⟩
      rw [H.out]; exact h
end Go.Proofs.Ytofjgnlolmaidaa
