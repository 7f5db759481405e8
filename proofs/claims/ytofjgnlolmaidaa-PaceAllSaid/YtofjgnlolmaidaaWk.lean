/- Walks through the reference's Want and Plan. -/
import Derived.Test.YtofjgnlolmaidaaWj
namespace Go.Proofs.Ytofjgnlolmaidaa
set_option linter.unusedVariables false
open Go.RowKit
attribute [local go_sem] run_store_float

theorem want_stop {most : Int} {s : Nat} {k : Nat} (k1 : 1 ≤ k) (hk : (k : Int) < most) (h : k = 1 ∨ k ≤ Fl.ceilN s) (hc : (Fl.ceilN s : Int) ≤ k) : Fl.wantN most s = k := by
  unfold Fl.wantN
  rw [if_neg (by omega)]
  split <;> omega
theorem want_end {most : Int} {s : Nat} {k : Nat} (m1 : 1 ≤ most) (hk : ¬ (k : Int) < most) (hk2 : (k : Int) ≤ most) (h : k = 1 ∨ k ≤ Fl.ceilN s) : Fl.wantN most s = most := by
  unfold Fl.wantN
  split
  · rfl
  · split <;> omega

set_option maxHeartbeats 1000000 in
theorem refwant_any {w : World} {b : Nat} {most bytes : Int} {linger alpha want : Nat} (h : RefAt w b most bytes linger alpha want) (g : Good want) (m1 : 1 ≤ most) (m2 : most ≤ 256) :
    Calls Try.prog 21 #[.pointer (some ⟨b, 0, none⟩)] w fun e w' => e = .returned (.int .i64 (Fl.wantN most want)) ∧ w = w' := by
  have h0 := h.c0
  have h4 := h.c4
  go_enter Try.func21, Try.ntmps21
  go_wp2_with fail
  go_loop [3] (fun i => ∃ k : Nat, 1 ≤ k ∧ (k : Int) ≤ most ∧ (k = 1 ∨ k ≤ Fl.ceilN want) ∧ i = .int .i64 k) (fun i => (most - intOf i).toNat)
  case atStart => exact ⟨1, by omega, by omega, .inl rfl, rfl⟩
  case round =>
    obtain ⟨k, k1, k2, kc, rfl⟩ := hrel
    have KC := Lib.hid kc
    clear kc
    by_cases hlt : (k : Int) < most
    · have hg := Fl.ge_ceil (n := k) g.f g.lo g.hi (by omega) (by omega)
      rw [← Fl.ofI_floatOfInt] at hg
      by_cases hc : (Fl.ceilN want : Int) ≤ k
      · rw [decide_eq_true hc] at hg
        have H : Hid (Fl.wantN most want = k) := Lib.hid (want_stop k1 hlt KC.out hc)
        clear hc
        go_wp2_with fail
        go_ret
        exact ⟨by rw [H.out]; rfl, rfl⟩
      · rw [decide_eq_false hc] at hg
        go_wp2_with fail
        go_round
        case rel => exact ⟨k + 1, by omega, by omega, .inr (by omega), by go_num⟩
        case measure => simp [intOf]; omega
    · have H : Hid (Fl.wantN most want = most) := Lib.hid (want_end m1 hlt k2 KC.out)
      go_wp2_with fail
      go_ret
      exact ⟨by rw [H.out]; rfl, rfl⟩

set_option maxHeartbeats 2000000 in
theorem refplan_go {w : World} {b : Nat} {most bytes : Int} {linger alpha want : Nat} (n bs : Int) (age : Nat) (h : RefAt w b most bytes linger alpha want) (hb : b < w.heap.size) (g : Good want) (m1 : 1 ≤ most) (m2 : most ≤ 256)
    (hgo : planGo most bytes linger want n bs age = true) :
    Calls Try.prog 20 #[.pointer (some ⟨b, 0, none⟩), .int .i64 n, .int .i64 bs, .float .f64 age] w fun e w' => e = .returned (.agg #[.bool true, .float .f64 0]) ∧ Below w.heap.size w w' := by
  have hc := planGo_cases hgo
  clear hgo
  unfold age0 geB at hc
  have hA : ∀ W : World, W = w.alloc (.cells #[.bool false, .float .f64 0] 39) → RefAt W b most bytes linger alpha want := by
    rintro W rfl
    exact h.below ((Below.refl _ _).alloc (Nat.le_refl _) _) hb
  have hA' := hA _ rfl
  have h1 := hA'.c0
  have h2 := hA'.c1
  have h3 := hA'.c2
  cases ag : (Fl.ord age 0 == some .gt)
  all_goals
    rw [ag] at hc
    simp only [Bool.false_eq_true, if_false, if_true] at hc
    rcases hc with c | ⟨c, d⟩ | ⟨c, d, e⟩ | ⟨c, d, e, f, k⟩
    all_goals
      go_enter Try.func20, Try.ntmps20
      go_wp2_with (go_at_call 21; refine (refwant_any (hA _ rfl) g m1 m2).mono ?_; rintro e w' ⟨rfl, rfl⟩)
      exact bodyPost_ret (v := .agg #[.bool true, .float .f64 0]) (by simp [results, Try.results20, go_sem]) rfl ⟨rfl, by exact (((Below.refl _ _).alloc (Nat.le_refl _) _))⟩

set_option maxHeartbeats 2000000 in
theorem refplan_wait {w : World} {b : Nat} {most bytes : Int} {linger alpha want : Nat} (n bs : Int) (age d : Nat) (h : RefAt w b most bytes linger alpha want) (hb : b < w.heap.size) (g : Good want) (m1 : 1 ≤ most) (m2 : most ≤ 256)
    (hgo : planGo most bytes linger want n bs age = false) (hd : Ieee.double.sub linger (age0 age) = some d) :
    Calls Try.prog 20 #[.pointer (some ⟨b, 0, none⟩), .int .i64 n, .int .i64 bs, .float .f64 age] w fun e w' => e = .returned (.agg #[.bool false, .float .f64 (planWait linger age)]) ∧ Below w.heap.size w w' := by
  obtain ⟨c1, c2, c3, c4⟩ := planGo_false hgo
  clear hgo
  have f19 := ext19
  have hw : planWait linger age = if (Fl.ord d 0 == some .gt) = true then d else 1 := by unfold planWait; rw [hd]; rfl
  have r1 := fun w => run_float_arith (P := Try.prog) w .sub 25 .f64 _ _ d hd
  clear hd
  unfold age0 at r1 c3
  unfold geB at c3
  have hA : ∀ W : World, W = w.alloc (.cells #[.bool false, .float .f64 0] 39) → RefAt W b most bytes linger alpha want := by
    rintro W rfl
    exact h.below ((Below.refl _ _).alloc (Nat.le_refl _) _) hb
  have hA' := hA _ rfl
  have h1 := hA'.c0
  have h2 := hA'.c1
  have h3 := hA'.c2
  cases ag : (Fl.ord age 0 == some .gt)
  all_goals
    rw [ag] at c3 r1
    simp only [Bool.false_eq_true, if_false, if_true] at c3 r1
    cases dg : (Fl.ord d 0 == some .gt)
    all_goals
      rw [dg] at hw
      simp only [Bool.false_eq_true, if_false, if_true] at hw
      have H := Lib.hid hw
      rcases c4 with k | ⟨k, f⟩
      all_goals
        clear hw
        go_enter Try.func20, Try.ntmps20
        go_wp2_with (go_at_call 21; refine (refwant_any (hA _ rfl) g m1 m2).mono ?_; rintro e w' ⟨rfl, rfl⟩)
        rw [H.out]
        exact bodyPost_ret (v := .agg #[.bool false, .float .f64 _]) (by simp [results, Try.results20, go_sem]) rfl ⟨rfl, by exact (((Below.refl _ _).alloc (Nat.le_refl _) _))⟩

theorem bits_eq (x : Nat) (w : World) : Calls Try.prog 22 #[.float .f64 x, .float .f64 x] w fun e w' => e = .returned (.bool true) ∧ w = w' := by
  have h1 := ext45
  go_enter Try.func22, Try.ntmps22
  go_wp2
  go_ret
  exact ⟨by simp, rfl⟩
end Go.Proofs.Ytofjgnlolmaidaa
