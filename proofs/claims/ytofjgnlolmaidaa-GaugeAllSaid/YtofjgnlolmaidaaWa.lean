/- Walks through the package pace and what it calls: the contract of each function, of cells. -/
import Derived.Test.YtofjgnlolmaidaaRows
import Derived.WalkKit
import Derived.WalkSpells
import Derived.WalkLawsBesides
import Derived.Laws.FloatArith
import Derived.Laws.Externs
import Derived.Lib.Hide
import Derived.Outline
import Derived.BigQuiet
import Derived.Deep.QuietTactic
import Derived.Test.YtofjgnlolmaidaaFp
namespace Go.Proofs.Ytofjgnlolmaidaa
set_option linter.unusedVariables false
open Go.RowKit

theorem ext19 (n : Int) (w : World) : (callFunc 19 #[.int .u64 n]).run Try.prog w = .ok (.value (.float .f64 n.toNat)) w := by
  rw [run_callFunc_extern (e := Extern.MathFloatBits.float64frombits) Try.func19 (by kernel_rfl) (by kernel_rfl) (by kernel_rfl) (by kernel_rfl)]; rfl
theorem ext45 (n : Nat) (w : World) : (callFunc 45 #[.float .f64 n]).run Try.prog w = .ok (.value (.int .u64 n)) w := by
  rw [run_callFunc_extern (e := Extern.MathFloatBits.float64bits) Try.func45 (by kernel_rfl) (by kernel_rfl) (by kernel_rfl) (by kernel_rfl)]; rfl
def ceilSem (x : Nat) : Ieee.Datum → Sem Value
  | .nan s t =>
    if FloatKind.f64.format.quiet t = t then pure (.float .f64 x) else do
    let kept ← choose (.extern "math.Floor,Ceil,Trunc,RoundToEven.signallingNaN kept" 2)
    pure (.float .f64 (if kept == 1 then x else FloatKind.f64.encode (.nan s (FloatKind.f64.format.quiet t))))
  | d => pure (.float .f64 (FloatKind.f64.encode (d.integral .up)))
theorem ceilSem_num (x : Nat) {d : Ieee.Datum} (hd : ∀ s t, d ≠ .nan s t) : ceilSem x d = pure (.float .f64 (FloatKind.f64.encode (d.integral .up))) := by
  cases d with
  | nan s t => exact absurd rfl (hd s t)
  | number => rfl
  | infinity => rfl
theorem ext61 {x : Nat} (h : Fl.num x) (w : World) : (callFunc 61 #[.float .f64 x]).run Try.prog w = .ok (.value (.float .f64 (Fl.ceilW x))) w := by
  rw [run_callFunc_extern (e := Extern.MathFloor.toIntegral "math.archCeil" .up) Try.func61 (by kernel_rfl) (by kernel_rfl) (by kernel_rfl) (by kernel_rfl)]
  change (Sem.run Try.prog (ceilSem x (FloatKind.f64.decode x)) w).andThen _ = _
  have hd : ∀ s t, FloatKind.f64.decode x ≠ .nan s t := by
    intro s t e
    have e' : Ieee.double.read x = .nan s t := e
    rcases Nat.lt_or_eq_of_le h with hf | hi
    · obtain ⟨m, i, e1, _⟩ := Fl.read_fin hf
      rw [e1] at e'; cases e'
    · rw [Fl.read_inf hi] at e'; cases e'
  rw [ceilSem_num x hd]; rfl

theorem none_any (w : World) : Calls Try.prog 63 #[] w fun e w' => e = .returned (.float .f64 9221120237041090561) ∧ w = w' := by
  have h := ext19
  go_enter Try.func63, Try.ntmps63
  go_wp2
  go_ret
  exact ⟨rfl, rfl⟩

theorem canon_any (x : Nat) (w : World) : Calls Try.prog 47 #[.float .f64 x] w fun e w' => e = .returned (.float .f64 (Fl.canon x)) ∧ w = w' := by
  by_cases h : Fl.num x
  · have h1 := Fl.neq_self_num h
    have H : Hid (Fl.canon x = x) := Lib.hid (if_pos h)
    clear h
    go_enter Try.func47, Try.ntmps47
    go_wp2
    go_ret
    exact ⟨by rw [H.out]; rfl, rfl⟩
  · have h1 := Fl.neq_self_nan h
    have H : Hid (Fl.canon x = 9221120237041090561) := Lib.hid (if_neg h)
    clear h
    go_enter Try.func47, Try.ntmps47
    go_wp2_with (go_at_call 63; refine (none_any _).mono ?_; rintro e w' ⟨rfl, rfl⟩)
    go_ret
    exact ⟨by rw [H.out]; rfl, rfl⟩

theorem ceil_any {x : Nat} (h : Fl.num x) (w : World) : Calls Try.prog 44 #[.float .f64 x] w fun e w' => e = .returned (.float .f64 (Fl.ceilW x)) ∧ w = w' := by
  have h1 := ext61 h
  go_enter Try.func44, Try.ntmps44
  go_wp2
  go_ret
  exact ⟨rfl, rfl⟩

/-- A smoothing step whose operations are all valid. -/
theorem smooth_ok {v x a d y r : Nat} (ha : (Fl.ord a 0 == some .gt) = true) (hb : (Fl.ord a 4607182418800017408 == some .lt || Fl.ord a 4607182418800017408 == some .eq) = true)
    (hx : Fl.num x) (hv : Fl.num v) (e1 : Ieee.double.sub x v = some d) (e2 : Ieee.double.mul a d = some y) (e3 : Ieee.double.add v y = some r) (w : World) :
    Calls Try.prog 25 #[.float .f64 v, .float .f64 x, .float .f64 a] w fun e w' => e = .returned (.tuple #[.float .f64 (Fl.canon r), .int .i64 0]) ∧ w = w' := by
  have h1 := Fl.neq_self_num hx
  have h2 := Fl.neq_self_num hv
  have r1 := fun w => run_float_arith (P := Try.prog) w .sub 25 .f64 x v d e1
  have r2 := fun w => run_float_arith (P := Try.prog) w .mul 25 .f64 a d y e2
  have r3 := fun w => run_float_arith (P := Try.prog) w .add 25 .f64 v y r e3
  clear e1 e2 e3 hx hv
  go_enter Try.func25, Try.ntmps25
  go_wp2_with (go_at_call 47; refine (canon_any _ _).mono ?_; rintro e w' ⟨rfl, rfl⟩)
  go_ret2
  exact ⟨rfl, rfl⟩

/-- What a pace's block holds. -/
structure PaceAt (w : World) (b : Nat) (most bytes : Int) (linger alpha want : Nat) : Prop where
  c0 : w.cell? ⟨b, 0, none⟩ = some (.bool true)
  c1 : w.cell? ⟨b, 1, none⟩ = some (.int .i64 most)
  c2 : w.cell? ⟨b, 2, none⟩ = some (.int .i64 bytes)
  c3 : w.cell? ⟨b, 3, none⟩ = some (.float .f64 linger)
  c4 : w.cell? ⟨b, 4, none⟩ = some (.float .f64 alpha)
  c5 : w.cell? ⟨b, 5, none⟩ = some (.float .f64 want)
  fz : w.frozen? ⟨b, 5, none⟩ = false

theorem there_any {w : World} {b : Nat} {most bytes : Int} {linger alpha want : Nat} (h : PaceAt w b most bytes linger alpha want) :
    Calls Try.prog 43 #[.pointer (some ⟨b, 0, none⟩)] w fun e w' => e = .returned (.bool true) ∧ w = w' := by
  have h0 := h.c0
  clear h
  go_enter Try.func43, Try.ntmps43
  go_wp2
  go_ret
  exact ⟨rfl, rfl⟩

theorem there_nil (w : World) : Calls Try.prog 43 #[.pointer none] w fun e w' => e = .returned (.bool false) ∧ w = w' := by
  go_enter Try.func43, Try.ntmps43
  go_wp2
  go_ret
  exact ⟨rfl, rfl⟩

/-- What is wanted: finite, from 0 to 512. -/
structure Good (s : Nat) : Prop where
  f : Fl.fin s
  lo : 0 ≤ Fl.val s
  hi : Fl.val s ≤ 512 * Fl.U

theorem want_any {w : World} {b : Nat} {most bytes : Int} {linger alpha want : Nat} (h : PaceAt w b most bytes linger alpha want) (g : Good want) (m1 : 1 ≤ most) (m2 : most ≤ 256) :
    Calls Try.prog 16 #[.pointer (some ⟨b, 0, none⟩)] w fun e w' => e = .returned (.int .i64 (Fl.wantN most want)) ∧ w = w' := by
  have h1 := h.c1
  have h5 := h.c5
  have k1 := Fl.ceilW_ge (n := most) g.f g.lo g.hi (by omega)
  have k2 := Fl.ceilW_ge (n := 1) g.f g.lo g.hi (by decide)
  rw [Fl.one_is] at k2
  rw [← Fl.ofI_floatOfInt] at k1
  have k3 := fun w => run_convert_float_int (P := Try.prog) w 25 3 .f64 .i64 _ _ (by kernel_rfl) Try.underlying3 (Fl.ceilW_toInt g.f g.lo g.hi)
  by_cases c1 : most ≤ Fl.ceilN want
  · rw [decide_eq_true c1] at k1
    have H : Hid (Fl.wantN most want = most) := Lib.hid (by unfold Fl.wantN; rw [if_pos c1])
    clear c1 k2 k3
    go_enter Try.func16, Try.ntmps16
    go_wp2_with (first | (go_at_call 43; refine (there_any h).mono ?_; rintro e w' ⟨rfl, rfl⟩) | (go_at_call 44; refine (ceil_any g.f.num _).mono ?_; rintro e w' ⟨rfl, rfl⟩))
    go_ret
    exact ⟨by rw [H.out]; rfl, rfl⟩
  · rw [decide_eq_false c1] at k1
    by_cases c2 : 1 ≤ (Fl.ceilN want : Int)
    · rw [decide_eq_true c2] at k2
      have H : Hid (Fl.wantN most want = Fl.ceilN want) := Lib.hid (by unfold Fl.wantN; rw [if_neg c1, if_pos c2])
      clear c1 c2
      go_enter Try.func16, Try.ntmps16
      go_wp2_with (first | (go_at_call 43; refine (there_any h).mono ?_; rintro e w' ⟨rfl, rfl⟩) | (go_at_call 44; refine (ceil_any g.f.num _).mono ?_; rintro e w' ⟨rfl, rfl⟩))
      go_ret
      exact ⟨by rw [H.out]; rfl, rfl⟩
    · rw [decide_eq_false c2] at k2
      have H : Hid (Fl.wantN most want = 1) := Lib.hid (by unfold Fl.wantN; rw [if_neg c1, if_neg c2])
      clear c1 c2
      go_enter Try.func16, Try.ntmps16
      go_wp2_with (first | (go_at_call 43; refine (there_any h).mono ?_; rintro e w' ⟨rfl, rfl⟩) | (go_at_call 44; refine (ceil_any g.f.num _).mono ?_; rintro e w' ⟨rfl, rfl⟩))
      go_ret
      exact ⟨by rw [H.out]; rfl, rfl⟩

end Go.Proofs.Ytofjgnlolmaidaa
