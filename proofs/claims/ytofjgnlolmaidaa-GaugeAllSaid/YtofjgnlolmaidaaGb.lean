/- Float operations whatever their operands: where one is invalid the tape names a NaN; behind Canon nothing hangs on which. Both smoothings. -/
import Derived.Test.YtofjgnlolmaidaaGa
namespace Go.Proofs.Ytofjgnlolmaidaa
set_option linter.unusedVariables false
open Go.RowKit

def nanOf (x y : Nat) (w : World) : Nat := Question.cut (.nanBits .f64 x y) (w.tape w.drawn (.nanBits .f64 x y))
def fopR (op : BinOp) (x y : Nat) (w : World) : Nat := match floatBits op .f64 x y with
  | some r => r
  | none => nanOf x y w
def fopN (op : BinOp) (x y : Nat) : Nat := match floatBits op .f64 x y with
  | some _ => 0
  | none => 1

theorem nanOf_nan (x y : Nat) (w : World) : ¬ Fl.num (nanOf x y w) ∧ nanOf x y w < 18446744073709551616 := by
  unfold nanOf
  generalize w.tape w.drawn (.nanBits .f64 x y) = t
  simp only [Question.cut]
  have h1 : t % 2 < 2 := Nat.mod_lt _ (by decide)
  have h2 : t / 2 % (2 ^ 52 - 1) < 2 ^ 52 - 1 := Nat.mod_lt _ (by decide)
  generalize t % 2 = a at h1
  generalize t / 2 % (2 ^ 52 - 1) = b at h2
  unfold Fl.num Fl.rg
  simp only [Fl.SGN, Fl.INF]
  rcases (by omega : a = 0 ∨ a = 1) with rfl | rfl <;> omega

theorem run_fop_add (t : TypeId) (x y : Nat) (w : World) : (binOp .add t (.float .f64 x) (.float .f64 y)).run Try.prog w = .ok (.float .f64 (fopR .add x y w)) (w.drewN (fopN .add x y)) := by
  unfold fopR fopN
  cases h : floatBits .add .f64 x y with
  | some r => rw [run_float_arith w .add t .f64 x y r h]; rfl
  | none =>
    have h' : FloatKind.f64.format.add x y = none := h
    simp only [binOp]
    simp [Op.floatArith, h']
    rfl
theorem run_fop_sub (t : TypeId) (x y : Nat) (w : World) : (binOp .sub t (.float .f64 x) (.float .f64 y)).run Try.prog w = .ok (.float .f64 (fopR .sub x y w)) (w.drewN (fopN .sub x y)) := by
  unfold fopR fopN
  cases h : floatBits .sub .f64 x y with
  | some r => rw [run_float_arith w .sub t .f64 x y r h]; rfl
  | none =>
    have h' : FloatKind.f64.format.sub x y = none := h
    simp only [binOp]
    simp [Op.floatArith, h']
    rfl
theorem run_fop_mul (t : TypeId) (x y : Nat) (w : World) : (binOp .mul t (.float .f64 x) (.float .f64 y)).run Try.prog w = .ok (.float .f64 (fopR .mul x y w)) (w.drewN (fopN .mul x y)) := by
  unfold fopR fopN
  cases h : floatBits .mul .f64 x y with
  | some r => rw [run_float_arith w .mul t .f64 x y r h]; rfl
  | none =>
    have h' : FloatKind.f64.format.mul x y = none := h
    simp only [binOp]
    simp [Op.floatArith, h']
    rfl
theorem run_fop_quo (t : TypeId) (x y : Nat) (w : World) : (binOp .quo t (.float .f64 x) (.float .f64 y)).run Try.prog w = .ok (.float .f64 (fopR .quo x y w)) (w.drewN (fopN .quo x y)) := by
  unfold fopR fopN
  cases h : floatBits .quo .f64 x y with
  | some r => rw [run_float_arith w .quo t .f64 x y r h]; rfl
  | none =>
    have h' : FloatKind.f64.format.div x y = none := h
    simp only [binOp]
    simp [Op.floatArith, h']
    rfl
theorem fopR_some {op : BinOp} {x y r : Nat} (w : World) (h : floatBits op .f64 x y = some r) : fopR op x y w = r := by unfold fopR; rw [h]
theorem fopR_none {op : BinOp} {x y : Nat} (w : World) (h : floatBits op .f64 x y = none) : ¬ Fl.num (fopR op x y w) := by unfold fopR; rw [h]; exact (nanOf_nan x y w).1
theorem fopR_lt (op : BinOp) (x y : Nat) (w : World) : fopR op x y w < 18446744073709551616 := by
  cases h : floatBits op .f64 x y with
  | some r => rw [fopR_some w h]; have := floatBits_wf h; simpa [Lit.wf] using this
  | none => unfold fopR; rw [h]; exact (nanOf_nan x y w).2

open Ieee in
theorem add_nan_r {x y : Nat} (h : ¬ Fl.num y) : double.add x y = none := by
  obtain ⟨s, t, e⟩ := Fl.read_nan h
  unfold Format.add; rw [e]; cases double.read x <;> rfl
open Ieee in
theorem add_nan_l {x y : Nat} (h : ¬ Fl.num x) : double.add x y = none := by
  obtain ⟨s, t, e⟩ := Fl.read_nan h
  unfold Format.add; rw [e]; cases double.read y <;> rfl
open Ieee in
theorem mul_nan_r {x y : Nat} (h : ¬ Fl.num y) : double.mul x y = none := by
  obtain ⟨s, t, e⟩ := Fl.read_nan h
  unfold Format.mul; rw [e]; cases double.read x <;> rfl
open Ieee in
theorem mul_nan_l {x y : Nat} (h : ¬ Fl.num x) : double.mul x y = none := by
  obtain ⟨s, t, e⟩ := Fl.read_nan h
  unfold Format.mul; rw [e]; cases double.read y <;> rfl
open Ieee in
theorem div_nan_l {x y : Nat} (h : ¬ Fl.num x) : double.div x y = none := by
  obtain ⟨s, t, e⟩ := Fl.read_nan h
  unfold Format.div; rw [e]; cases double.read y <;> rfl
open Ieee in
theorem sub_nan_l {x y : Nat} (h : ¬ Fl.num x) : double.sub x y = none := by
  obtain ⟨s, t, e⟩ := Fl.read_nan h
  unfold Format.sub; rw [e]; cases (double.read y).opposite <;> rfl
open Ieee in
theorem sub_nan_r {x y : Nat} (h : ¬ Fl.num y) : double.sub x y = none := by
  obtain ⟨s, t, e⟩ := Fl.read_nan h
  unfold Format.sub; rw [e]; cases double.read x <;> rfl

theorem canon_add {x y : Nat} (w : World) : Fl.canon (fopR .add x y w) = Fl.canonO (Ieee.double.add x y) := by
  cases h : Ieee.double.add x y with
  | some r => rw [fopR_some (op := .add) w h]; exact if_pos (Fl.add_num h)
  | none => exact if_neg (fopR_none (op := .add) w h)

/-- What a smoothing comes to. -/
def smoothO (v x a : Nat) : Option Nat := (Ieee.double.sub x v).bind fun d => (Ieee.double.mul a d).bind fun y => Ieee.double.add v y
theorem canon_smooth (v x a : Nat) (w0 w1 w2 : World) : Fl.canon (fopR .add v (fopR .mul a (fopR .sub x v w0) w1) w2) = Fl.canonO (smoothO v x a) := by
  rw [canon_add]
  unfold smoothO
  cases h0 : Ieee.double.sub x v with
  | none => rw [add_nan_r (fopR_none (op := .mul) w1 (mul_nan_r (fopR_none (op := .sub) w0 h0)))]; rfl
  | some d =>
    rw [fopR_some (op := .sub) w0 h0]
    simp only [Option.bind_some]
    cases h1 : Ieee.double.mul a d with
    | none => rw [add_nan_r (fopR_none (op := .mul) w1 h1)]; rfl
    | some y => rw [fopR_some (op := .mul) w1 h1]; rfl

/-- Both smoothings: the number and the error. -/
def smooth (v x a : Nat) : Nat × Int :=
  if (Fl.ord a 0 == some .gt) = true ∧ (Fl.ord a 4607182418800017408 == some .lt || Fl.ord a 4607182418800017408 == some .eq) = true then
    (if Fl.num x then (if Fl.num v then (Fl.canonO (smoothO v x a), 0) else (x, 0)) else (Fl.canon v, 0))
  else (0, 1)

attribute [local go_sem] run_fop_add run_fop_sub run_fop_mul run_fop_quo

/-- The world behind some draws. -/
def Drawn (w w' : World) : Prop := ∃ n, w' = w.drewN n

set_option maxHeartbeats 1000000 in
theorem smooth25 (v x a : Nat) (w : World) : Calls Try.prog 25 #[.float .f64 v, .float .f64 x, .float .f64 a] w fun e w' => e = .returned (.tuple #[.float .f64 (smooth v x a).1, .int .i64 (smooth v x a).2]) ∧ Drawn w w' := by
  cases ha : (Fl.ord a 0 == some .gt)
  · have H : Hid (smooth v x a = (0, 1)) := Lib.hid (by unfold smooth; rw [if_neg (by rw [ha]; simp)])
    go_enter Try.func25, Try.ntmps25
    go_wp2_with fail
    go_ret2
    exact ⟨by rw [H.out]; rfl, 0, rfl⟩
  cases hb : (Fl.ord a 4607182418800017408 == some .lt || Fl.ord a 4607182418800017408 == some .eq)
  · have H : Hid (smooth v x a = (0, 1)) := Lib.hid (by unfold smooth; rw [if_neg (by rw [hb]; simp)])
    go_enter Try.func25, Try.ntmps25
    go_wp2_with fail
    go_ret2
    exact ⟨by rw [H.out]; rfl, 0, rfl⟩
  by_cases hx : Fl.num x
  · have h1 := Fl.neq_self_num hx
    by_cases hv : Fl.num v
    · have h2 := Fl.neq_self_num hv
      have H : Hid (smooth v x a = (Fl.canonO (smoothO v x a), 0)) := Lib.hid (by unfold smooth; rw [if_pos ⟨ha, hb⟩, if_pos hx, if_pos hv])
      clear hx hv
      go_enter Try.func25, Try.ntmps25
      go_wp2_with (go_at_call 47; refine (canon_any _ _).mono ?_; rintro e w' ⟨rfl, rfl⟩)
      go_ret2
      exact ⟨by rw [H.out, canon_smooth]; rfl, _, rfl⟩
    · have h2 := Fl.neq_self_nan hv
      have H : Hid (smooth v x a = (x, 0)) := Lib.hid (by unfold smooth; rw [if_pos ⟨ha, hb⟩, if_pos hx, if_neg hv])
      clear hx hv
      go_enter Try.func25, Try.ntmps25
      go_wp2_with fail
      go_ret2
      exact ⟨by rw [H.out]; rfl, 0, rfl⟩
  · have h1 := Fl.neq_self_nan hx
    have H : Hid (smooth v x a = (Fl.canon v, 0)) := Lib.hid (by unfold smooth; rw [if_pos ⟨ha, hb⟩, if_neg hx])
    clear hx
    go_enter Try.func25, Try.ntmps25
    go_wp2_with (go_at_call 47; refine (canon_any _ _).mono ?_; rintro e w' ⟨rfl, rfl⟩)
    go_ret2
    exact ⟨by rw [H.out]; rfl, 0, rfl⟩

set_option maxHeartbeats 1000000 in
theorem smooth26 {v x : Nat} (a : Nat) (lv : v < 18446744073709551616) (lx : x < 18446744073709551616) (w : World) : Calls Try.prog 26 #[.float .f64 v, .float .f64 x, .float .f64 a] w fun e w' => e = .returned (.tuple #[.float .f64 (smooth v x a).1, .int .i64 (smooth v x a).2]) ∧ Drawn w w' := by
  cases ha : (Fl.ord a 0 == some .gt)
  · have H : Hid (smooth v x a = (0, 1)) := Lib.hid (by unfold smooth; rw [if_neg (by rw [ha]; simp)])
    go_enter Try.func26, Try.ntmps26
    go_wp2_with fail
    go_ret2
    exact ⟨by rw [H.out]; rfl, 0, rfl⟩
  cases hb : (Fl.ord a 4607182418800017408 == some .lt || Fl.ord a 4607182418800017408 == some .eq)
  · have H : Hid (smooth v x a = (0, 1)) := Lib.hid (by unfold smooth; rw [if_neg (by rw [hb]; simp)])
    go_enter Try.func26, Try.ntmps26
    go_wp2_with fail
    go_ret2
    exact ⟨by rw [H.out]; rfl, 0, rfl⟩
  by_cases hx : Fl.num x
  · by_cases hv : Fl.num v
    · have H : Hid (smooth v x a = (Fl.canonO (smoothO v x a), 0)) := Lib.hid (by unfold smooth; rw [if_pos ⟨ha, hb⟩, if_pos hx, if_pos hv])
      have n1 := Lib.hid (nan_no hx lx)
      have n2 := Lib.hid (nan_no hv lv)
      clear hx hv lv lx
      go_enter Try.func26, Try.ntmps26
      go_wp2_with fail
      refine (n1.out _).mono ?_
      rintro e w' ⟨rfl, rfl⟩
      go_wp2_with fail
      refine (n2.out _).mono ?_
      rintro e w' ⟨rfl, rfl⟩
      go_wp2_with (go_at_call 49; refine (refcanon_any (fopR_lt _ _ _ _) _).mono ?_; rintro e w' ⟨rfl, rfl⟩)
      go_ret2
      exact ⟨by rw [H.out, canon_smooth]; rfl, _, rfl⟩
    · have H : Hid (smooth v x a = (x, 0)) := Lib.hid (by unfold smooth; rw [if_pos ⟨ha, hb⟩, if_pos hx, if_neg hv])
      have n1 := Lib.hid (nan_no hx lx)
      have n2 := Lib.hid (nan_yes hv lv)
      clear hx hv lv lx
      go_enter Try.func26, Try.ntmps26
      go_wp2_with fail
      refine (n1.out _).mono ?_
      rintro e w' ⟨rfl, rfl⟩
      go_wp2_with fail
      refine (n2.out _).mono ?_
      rintro e w' ⟨rfl, rfl⟩
      go_wp2_with fail
      go_ret2
      exact ⟨by rw [H.out]; rfl, 0, rfl⟩
  · have H : Hid (smooth v x a = (Fl.canon v, 0)) := Lib.hid (by unfold smooth; rw [if_pos ⟨ha, hb⟩, if_neg hx])
    have n1 := Lib.hid (nan_yes hx lx)
    have n2 := Lib.hid (refcanon_any lv)
    clear hx lv lx
    go_enter Try.func26, Try.ntmps26
    go_wp2_with fail
    refine (n1.out _).mono ?_
    rintro e w' ⟨rfl, rfl⟩
    go_wp2_with fail
    refine (n2.out _).mono ?_
    rintro e w' ⟨rfl, rfl⟩
    go_wp2_with fail
    go_ret2
    exact ⟨by rw [H.out]; rfl, 0, rfl⟩

/-- A finite number smoothed to itself by 1 stays. -/
theorem smooth_self {v : Nat} (hf : Fl.fin v) : (Fl.ord (smooth v v 4607182418800017408).1 v == some .eq) = true := by
  have up := Fl.U_pos
  obtain ⟨d, e1, r1⟩ := Fl.sub_fin hf hf
  have vd : Fl.val d = 0 := by rw [r1.exact (z := 0) Fl.zero_num (by rw [Fl.zero_val, Fl.pow_zero_int]; omega), Fl.zero_val]
  have fd : Fl.fin d := Fl.fin_of_val r1.isnum (k := 0) (by decide) (by rw [vd]; simp) (by rw [vd]; simp)
  obtain ⟨y, e2, r2⟩ := Fl.mul_fin Fl.one_fin fd
  have vy : Fl.val y = 0 := by rw [r2.exact (z := 0) Fl.zero_num (by rw [Fl.zero_val, vd, Int.zero_mul, Int.mul_zero]), Fl.zero_val]
  have fy : Fl.fin y := Fl.fin_of_val r2.isnum (k := 0) (by decide) (by rw [vy]; simp) (by rw [vy]; simp)
  obtain ⟨r, e3, r3⟩ := Fl.add_fin hf fy
  have vr : Fl.val r = Fl.val v := r3.exact hf.num (by rw [vy, Fl.pow_zero_int]; omega)
  have e : (smooth v v 4607182418800017408).1 = r := by
    unfold smooth
    rw [if_pos one_may_tail, if_pos hf.num, if_pos hf.num]
    unfold smoothO
    rw [e1, Option.bind_some, e2, Option.bind_some, e3]; rfl
  rw [e, Fl.eq_num r3.isnum hf.num]; exact decide_eq_true vr

end Go.Proofs.Ytofjgnlolmaidaa
