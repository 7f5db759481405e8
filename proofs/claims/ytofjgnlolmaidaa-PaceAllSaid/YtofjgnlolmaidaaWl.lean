/- The walk through PaceAll. -/
import Derived.Test.YtofjgnlolmaidaaWk
import Derived.Deep.CutBlock
import Derived.Deep.DeepCutAuto
namespace Go.Proofs.Ytofjgnlolmaidaa
set_option linter.unusedVariables false
open Go.RowKit
attribute [local go_sem] run_store_float

def planRes (most bytes : Int) (l s : Nat) (n b : Int) (x : Nat) : Bool × Nat := if planGo most bytes l s n b x = true then (true, 0) else (false, planWait l x)

theorem planGo_rg {most bytes : Int} {l s : Nat} {n b : Int} {x : Nat} (fl : Fl.fin l) (h0 : 0 ≤ Fl.val l) : planGo most bytes (Fl.rg l) s n b x = planGo most bytes l s n b x := by
  unfold planGo
  rw [geB_num (age0_num x).1 fl.num, geB_num (age0_num x).1 (Fl.rg_fin fl).num, (Fl.rg_val l h0).1]
theorem rg_self {l : Nat} (hl : l < 18446744073709551616) (h : 0 < Fl.val l) : Fl.rg l = l := by
  have e := Fl.word_rg l hl
  have hn : Fl.ng l = false := by
    cases hn : Fl.ng l
    · rfl
    · have : Fl.val l = -(Fl.V (Fl.rg l) : Int) := by unfold Fl.val; rw [if_pos hn]
      omega
  rw [hn] at e
  exact e
theorem wait_pos {most bytes : Int} {l s : Nat} {n b : Int} {x : Nat} (fl : Fl.fin l) (h : planGo most bytes l s n b x = false) : 0 < Fl.val l := by
  obtain ⟨_, _, c, _⟩ := planGo_false h
  obtain ⟨na, pa⟩ := age0_num x
  rw [geB_num na fl.num] at c
  have c := of_decide_eq_false c
  omega

theorem plan_any {w : World} {b : Nat} {most bytes : Int} {l alpha want : Nat} (n bs : Int) (age : Nat) (fl : Fl.fin l) (l0 : 0 ≤ Fl.val l) (ll : l < 18446744073709551616) (h : PaceAt w b most bytes (Fl.rg l) alpha want) (hb : b < w.heap.size) (g : Good want) (m1 : 1 ≤ most) (m2 : most ≤ 256) :
    Calls Try.prog 17 #[.pointer (some ⟨b, 0, none⟩), .int .i64 n, .int .i64 bs, .float .f64 age] w fun e w' => e = .returned (.agg #[.bool (planRes most bytes l want n bs age).1, .float .f64 (planRes most bytes l want n bs age).2]) ∧ Below w.heap.size w w' := by
  have e := planGo_rg (most := most) (bytes := bytes) (s := want) (n := n) (b := bs) (x := age) fl l0
  cases hgo : planGo most bytes l want n bs age
  · have p := wait_pos fl hgo
    have er := rg_self ll p
    rw [hgo] at e
    obtain ⟨d, hd, _⟩ := wait_facts (Fl.rg_fin fl) (by rw [(Fl.rg_val l l0).1]; exact l0) e
    have hp : planRes most bytes l want n bs age = (false, planWait (Fl.rg l) age) := by unfold planRes; rw [hgo, er]; rfl
    rw [hp]
    exact plan_wait n bs age d h hb g m1 m2 e hd
  · rw [hgo] at e
    have hp : planRes most bytes l want n bs age = (true, 0) := by unfold planRes; rw [hgo]; rfl
    rw [hp]
    exact plan_go n bs age h hb g m1 m2 e

theorem refplan_any {w : World} {b : Nat} {most bytes : Int} {l alpha want : Nat} (n bs : Int) (age : Nat) (fl : Fl.fin l) (l0 : 0 ≤ Fl.val l) (h : RefAt w b most bytes l alpha want) (hb : b < w.heap.size) (g : Good want) (m1 : 1 ≤ most) (m2 : most ≤ 256) :
    Calls Try.prog 20 #[.pointer (some ⟨b, 0, none⟩), .int .i64 n, .int .i64 bs, .float .f64 age] w fun e w' => e = .returned (.agg #[.bool (planRes most bytes l want n bs age).1, .float .f64 (planRes most bytes l want n bs age).2]) ∧ Below w.heap.size w w' := by
  cases hgo : planGo most bytes l want n bs age
  · obtain ⟨d, hd, _⟩ := wait_facts fl l0 hgo
    have hp : planRes most bytes l want n bs age = (false, planWait l age) := by unfold planRes; rw [hgo]; rfl
    rw [hp]
    exact refplan_wait n bs age d h hb g m1 m2 hgo hd
  · have hp : planRes most bytes l want n bs age = (true, 0) := by unfold planRes; rw [hgo]; rfl
    rw [hp]
    exact refplan_go n bs age h hb g m1 m2 hgo

theorem seen_nil (n : Int) (w : World) : Calls Try.prog 15 #[.pointer none, .int .i64 n] w fun e w' => e = .returned (.tuple #[]) ∧ w = w' := by
  go_enter Try.func15, Try.ntmps15
  go_wp2_with (go_at_call 43; refine (there_nil _).mono ?_; rintro e w' ⟨rfl, rfl⟩)
  exact bodyPost_ret (results_none rfl _ _ _) rfl ⟨rfl, rfl⟩
theorem want_nil (w : World) : Calls Try.prog 16 #[.pointer none] w fun e w' => e = .returned (.int .i64 1) ∧ w = w' := by
  go_enter Try.func16, Try.ntmps16
  go_wp2_with (go_at_call 43; refine (there_nil _).mono ?_; rintro e w' ⟨rfl, rfl⟩)
  go_ret
  exact ⟨rfl, rfl⟩
theorem plan_nil (n b : Int) (x : Nat) (w : World) : Calls Try.prog 17 #[.pointer none, .int .i64 n, .int .i64 b, .float .f64 x] w fun e w' => e = .returned (.agg #[.bool true, .float .f64 0]) ∧ Below w.heap.size w w' := by
  go_enter Try.func17, Try.ntmps17
  go_wp2_with (go_at_call 43; refine (there_nil _).mono ?_; rintro e w' ⟨rfl, rfl⟩)
  exact bodyPost_ret (v := .agg #[.bool true, .float .f64 0]) (by simp [results, Try.results17, go_sem]) rfl ⟨rfl, by exact (((Below.refl _ _).alloc (Nat.le_refl _) _))⟩

theorem eql_plan (w : World) : (binOp .eql 39 (.agg #[.bool true, .float .f64 0]) (.agg #[.bool true, .float .f64 0])).run Try.prog w = .ok (.bool true) w := by kernel_rfl

set_option maxRecDepth 100000 in
set_option maxHeartbeats 2000000 in
theorem all_bad (most bytes l a : Int) (sl : Value) (hm : ¬ May most bytes l.toNat a.toNat) (w : World) :
    Calls Try.prog 3 #[.int .i64 most, .int .i64 bytes, .int .u64 l, .int .u64 a, sl] w fun e w' => e = .returned (.bool true) ∧ Below w.heap.size w w' := by
  have eqp := eql_plan
  go_enter Try.func3, Try.ntmps3
  go_wp2_with fail
  refine (begun_any _).mono ?_
  rintro e w1 ⟨rfl, hB1⟩
  have l1 := hB1.size
  go_wp2_with fail
  refine (of_any _ _ _ _ _).mono ?_
  rintro e w2 ⟨rfl, hb2⟩
  have hB2 := hB1.trans (hb2.mono l1)
  have l2 := hB2.size
  clear hb2
  go_wp2_with fail
  refine (new_bad hm _).mono ?_
  rintro e w3 ⟨rfl, hb3⟩
  have q3 := cells_of_block ((hb3.block w2.heap.size (by simp)).trans (alloc_at _ _ _ rfl))
  have q0 : w3.cell? ⟨w2.heap.size, 0, none⟩ = some (.int .i64 most) := q3 0
  have q1 : w3.cell? ⟨w2.heap.size, 1, none⟩ = some (.int .i64 bytes) := q3 1
  have q2 : w3.cell? ⟨w2.heap.size, 2, none⟩ = some (.float .f64 l.toNat) := q3 2
  have q4 : w3.cell? ⟨w2.heap.size, 3, none⟩ = some (.float .f64 a.toNat) := q3 3
  have hB3 := (hB2.alloc (by omega) _).trans (hb3.mono (by simp; omega))
  have l3 := hB3.size
  clear hb3 q3
  go_wp2_with fail
  refine (refnew_bad hm _).mono ?_
  rintro e w4 ⟨rfl, hb4⟩
  have hB4 := hB3.trans (hb4.mono l3)
  have l4 := hB4.size
  clear hb4 q0 q1 q2 q4
  go_wp2_with (first
    | (go_at_call 15; refine (seen_nil _ _).mono ?_; rintro e w' ⟨rfl, rfl⟩)
    | (go_at_call 16; refine (want_nil _).mono ?_; rintro e w' ⟨rfl, rfl⟩))
  refine (plan_nil _ _ _ _).mono ?_
  rintro e w5 ⟨rfl, hb5⟩
  have hB5 := hB4.trans (hb5.mono l4)
  clear hb5
  go_wp2_with fail
  go_ret
  exact ⟨rfl, hB5⟩
end Go.Proofs.Ytofjgnlolmaidaa
