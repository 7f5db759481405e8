/- Walks through the package pace and what it calls: the contract of each function, of cells. -/
import Derived.Test.YtofjgnlolmaidaaWb
namespace Go.Proofs.Ytofjgnlolmaidaa
set_option linter.unusedVariables false
open Go.RowKit
attribute [local go_sem] run_store_float

def age0 (age : Nat) : Nat := if (Fl.ord age 0 == some .gt) = true then age else 0
def geB (x y : Nat) : Bool := Fl.ord x y == some .gt || Fl.ord x y == some .eq
def planGo (most bytes : Int) (linger want : Nat) (n bs : Int) (age : Nat) : Bool :=
  decide (most ≤ n) || (decide (bytes ≤ bs) || (geB (age0 age) linger || (decide (0 < n) && decide (Fl.wantN most want ≤ n))))

theorem planGo_cases {most bytes : Int} {linger want : Nat} {n bs : Int} {age : Nat} (h : planGo most bytes linger want n bs age = true) :
    most ≤ n ∨ (¬ most ≤ n ∧ bytes ≤ bs) ∨ (¬ most ≤ n ∧ ¬ bytes ≤ bs ∧ geB (age0 age) linger = true) ∨ (¬ most ≤ n ∧ ¬ bytes ≤ bs ∧ geB (age0 age) linger = false ∧ 0 < n ∧ Fl.wantN most want ≤ n) := by
  unfold planGo at h
  by_cases a : most ≤ n
  · exact .inl a
  · by_cases b : bytes ≤ bs
    · exact .inr (.inl ⟨a, b⟩)
    · cases c : geB (age0 age) linger
      · simp [a, b, c] at h; exact .inr (.inr (.inr ⟨a, b, rfl, h.1, h.2⟩))
      · exact .inr (.inr (.inl ⟨a, b, rfl⟩))

theorem PaceAt.below {w w' : World} {B b : Nat} {most bytes : Int} {linger alpha want : Nat} (h : PaceAt w b most bytes linger alpha want) (hB : Below B w w') (hb : b < B) : PaceAt w' b most bytes linger alpha want :=
  have q : ∀ o, w'.cell? ⟨b, o, none⟩ = w.cell? ⟨b, o, none⟩ := fun o => hB.cell (p := ⟨b, o, none⟩) hb
  ⟨(q 0).trans h.c0, (q 1).trans h.c1, (q 2).trans h.c2, (q 3).trans h.c3, (q 4).trans h.c4, (q 5).trans h.c5, (hB.frozen (p := ⟨b, 5, none⟩) hb).trans h.fz⟩
theorem PaceAt.grown {w w' : World} {row : Option Nat} {b : Nat} {most bytes : Int} {linger alpha want : Nat} (h : PaceAt w b most bytes linger alpha want) (hg : w.grownBy w' row) (hb : b < w.heap.size) (hr : some b ≠ row) : PaceAt w' b most bytes linger alpha want :=
  have hk := hg.block b hb hr
  have q : ∀ o, w'.cell? ⟨b, o, none⟩ = w.cell? ⟨b, o, none⟩ := fun o => World.cell?_of_block (w := w) (a := ⟨b, o, none⟩) hk
  ⟨(q 0).trans h.c0, (q 1).trans h.c1, (q 2).trans h.c2, (q 3).trans h.c3, (q 4).trans h.c4, (q 5).trans h.c5, (World.frozen?_of_block (w := w) (a := ⟨b, 5, none⟩) hk).trans h.fz⟩

set_option maxHeartbeats 1000000 in
theorem plan_go {w : World} {b : Nat} {most bytes : Int} {linger alpha want : Nat} (n bs : Int) (age : Nat) (h : PaceAt w b most bytes linger alpha want) (hb : b < w.heap.size) (g : Good want) (m1 : 1 ≤ most) (m2 : most ≤ 256)
    (hgo : planGo most bytes linger want n bs age = true) :
    Calls Try.prog 17 #[.pointer (some ⟨b, 0, none⟩), .int .i64 n, .int .i64 bs, .float .f64 age] w fun e w' => e = .returned (.agg #[.bool true, .float .f64 0]) ∧ Below w.heap.size w w' := by
  have hc := planGo_cases hgo
  clear hgo
  unfold age0 geB at hc
  have hA : ∀ W : World, W = w.alloc (.cells #[.bool false, .float .f64 0] 39) → PaceAt W b most bytes linger alpha want := by
    rintro W rfl
    exact h.below ((Below.refl _ _).alloc (Nat.le_refl _) _) hb
  have hA' := hA _ rfl
  have h1 := hA'.c1
  have h2 := hA'.c2
  have h3 := hA'.c3
  cases ag : (Fl.ord age 0 == some .gt)
  all_goals
    rw [ag] at hc
    simp only [Bool.false_eq_true, if_false, if_true] at hc
    rcases hc with c | ⟨c, d⟩ | ⟨c, d, e⟩ | ⟨c, d, e, f, k⟩
    all_goals
      go_enter Try.func17, Try.ntmps17
      go_wp2_with (first | (go_at_call 43; refine (there_any (hA _ rfl)).mono ?_; rintro e w' ⟨rfl, rfl⟩) | (go_at_call 16; refine (want_any (hA _ rfl) g m1 m2).mono ?_; rintro e w' ⟨rfl, rfl⟩))
      exact bodyPost_ret (v := .agg #[.bool true, .float .f64 0]) (by simp [results, Try.results17, go_sem]) rfl ⟨rfl, by exact (((Below.refl _ _).alloc (Nat.le_refl _) _))⟩
theorem planGo_false {most bytes : Int} {linger want : Nat} {n bs : Int} {age : Nat} (h : planGo most bytes linger want n bs age = false) :
    ¬ most ≤ n ∧ ¬ bytes ≤ bs ∧ geB (age0 age) linger = false ∧ (¬ 0 < n ∨ (0 < n ∧ ¬ Fl.wantN most want ≤ n)) := by
  unfold planGo at h
  simp only [Bool.or_eq_false_iff, Bool.and_eq_false_iff, decide_eq_false_iff_not] at h
  obtain ⟨a, b, c, d⟩ := h
  refine ⟨a, b, c, ?_⟩
  by_cases e : 0 < n
  · rcases d with d | d
    · exact absurd e d
    · exact .inr ⟨e, d⟩
  · exact .inl e

/-- What a plan waits, where it does not go: Linger less the age, the least number above 0 if that is none. -/
def planWait (linger age : Nat) : Nat := (fun x => if (Fl.ord x 0 == some .gt) = true then x else 1) (Fl.canonO (Ieee.double.sub linger (age0 age)))

set_option maxHeartbeats 1000000 in
theorem plan_wait {w : World} {b : Nat} {most bytes : Int} {linger alpha want : Nat} (n bs : Int) (age d : Nat) (h : PaceAt w b most bytes linger alpha want) (hb : b < w.heap.size) (g : Good want) (m1 : 1 ≤ most) (m2 : most ≤ 256)
    (hgo : planGo most bytes linger want n bs age = false) (hd : Ieee.double.sub linger (age0 age) = some d) :
    Calls Try.prog 17 #[.pointer (some ⟨b, 0, none⟩), .int .i64 n, .int .i64 bs, .float .f64 age] w fun e w' => e = .returned (.agg #[.bool false, .float .f64 (planWait linger age)]) ∧ Below w.heap.size w w' := by
  obtain ⟨c1, c2, c3, c4⟩ := planGo_false hgo
  clear hgo
  have hw : planWait linger age = if (Fl.ord d 0 == some .gt) = true then d else 1 := by unfold planWait; rw [hd]; rfl
  have r1 := fun w => run_float_arith (P := Try.prog) w .sub 25 .f64 _ _ d hd
  clear hd
  unfold age0 at r1 c3
  unfold geB at c3
  have hA : ∀ W : World, W = w.alloc (.cells #[.bool false, .float .f64 0] 39) → PaceAt W b most bytes linger alpha want := by
    rintro W rfl
    exact h.below ((Below.refl _ _).alloc (Nat.le_refl _) _) hb
  have hA' := hA _ rfl
  have h1 := hA'.c1
  have h2 := hA'.c2
  have h3 := hA'.c3
  cases ag : (Fl.ord age 0 == some .gt)
  all_goals
    rw [ag] at c3 r1
    simp only [Bool.false_eq_true, if_false, if_true] at c3 r1
    cases dg : (Fl.ord d 0 == some .gt)
    all_goals
      rw [dg] at hw
      simp only [Bool.false_eq_true, if_false, if_true] at hw
      have H := Lib.hid hw
      rcases c4 with k | ⟨k, f⟩
      all_goals
        clear hw
        go_enter Try.func17, Try.ntmps17
        go_wp2_with (first | (go_at_call 43; refine (there_any (hA _ rfl)).mono ?_; rintro e w' ⟨rfl, rfl⟩) | (go_at_call 16; refine (want_any (hA _ rfl) g m1 m2).mono ?_; rintro e w' ⟨rfl, rfl⟩))
        rw [H.out]
        exact bodyPost_ret (v := .agg #[.bool false, .float .f64 _]) (by simp [results, Try.results17, go_sem]) rfl ⟨rfl, by exact (((Below.refl _ _).alloc (Nat.le_refl _) _))⟩
end Go.Proofs.Ytofjgnlolmaidaa
