/- Walks through the package real's order: keys, comparisons; the reference's. -/
import Derived.Test.YtofjgnlolmaidaaWj
import Derived.Laws.DeepNot64
import Derived.Deep.CutBlock
namespace Go.Proofs.Ytofjgnlolmaidaa
set_option linter.unusedVariables false
open Go.RowKit

/-- A word's place in the order: NaNs behind all. -/
def key (x : Nat) : Nat := if Fl.num x then (if 9223372036854775808 ≤ x then 18446744073709551615 - x else x + 9223372036854775808) else 18446744073709551615

theorem key_lt {x : Nat} (h : x < 18446744073709551616) : key x < 18446744073709551616 := by
  unfold key; split
  · split <;> omega
  · omega

theorem or_top {x : Nat} (h : x < 9223372036854775808) : bits .or .u64 (x : Int) 9223372036854775808 = ((x + 9223372036854775808 : Nat) : Int) := by
  have := u64_or_nat x 9223372036854775808 (by omega) (by omega)
  rw [show ((9223372036854775808 : Nat) : Int) = 9223372036854775808 from rfl] at this
  rw [this]
  congr 1
  rw [Nat.add_comm]
  have := Nat.two_pow_add_eq_or_of_lt (i := 63) h 1
  rw [Nat.or_comm, show (9223372036854775808 : Nat) = 2 ^ 63 * 1 from rfl, ← this]

theorem not_u64 {x : Nat} (h : x < 18446744073709551616) : bits .xor .u64 IntKind.u64.max (x : Int) = 18446744073709551615 - (x : Int) := by
  have := u64_xor_nat 18446744073709551615 x (by omega) h
  rw [show IntKind.u64.max = ((18446744073709551615 : Nat) : Int) from rfl, this]
  have e : (18446744073709551615 : Nat) ^^^ x = 18446744073709551615 - x := by
    have h1 := BitVec.toNat_not (x := BitVec.ofNat 64 x)
    have h2 : (BitVec.allOnes 64 ^^^ BitVec.ofNat 64 x) = ~~~ (BitVec.ofNat 64 x) := BitVec.allOnes_xor
    have h3 := congrArg BitVec.toNat h2
    rw [h1, BitVec.toNat_xor, BitVec.toNat_allOnes, BitVec.toNat_ofNat, Nat.mod_eq_of_lt h] at h3
    exact h3
  rw [e]; omega

theorem key65_nan {x : Nat} (hx : ¬ Fl.num x) (w : World) : Calls Try.prog 65 #[.float .f64 x] w fun e w' => e = .returned (.int .u64 ((key x : Nat) : Int)) ∧ w = w' := by
  have h1 := ext45
  have h2 := Fl.neq_self_nan hx
  have H : Hid (key x = 18446744073709551615) := Lib.hid (by unfold key; rw [if_neg hx])
  clear hx
  go_enter Try.func65, Try.ntmps65
  go_wp2
  go_ret
  exact ⟨by rw [H.out]; rfl, rfl⟩
theorem key65_neg {x : Nat} (hx : Fl.num x) (hl : x < 18446744073709551616) (h : 9223372036854775808 ≤ x) (w : World) : Calls Try.prog 65 #[.float .f64 x] w fun e w' => e = .returned (.int .u64 ((key x : Nat) : Int)) ∧ w = w' := by
  have h1 := ext45
  have h2 := Fl.neq_self_num hx
  have h3 : (9223372036854775808 : Int) ≤ (x : Int) := by omega
  have H : Hid (((key x : Nat) : Int) = 18446744073709551615 - (x : Int)) := Lib.hid (by unfold key; rw [if_pos hx, if_pos h]; omega)
  clear hx h
  go_enter Try.func65, Try.ntmps65
  have hn := not_u64 hl
  go_wp2
  go_ret
  exact ⟨by rw [H.out]; rfl, rfl⟩
theorem key65_pos {x : Nat} (hx : Fl.num x) (h : x < 9223372036854775808) (w : World) : Calls Try.prog 65 #[.float .f64 x] w fun e w' => e = .returned (.int .u64 ((key x : Nat) : Int)) ∧ w = w' := by
  have h1 := ext45
  have h2 := Fl.neq_self_num hx
  have h3 : ¬ (9223372036854775808 : Int) ≤ (x : Int) := by omega
  have h4 := or_top h
  have H : Hid (key x = x + 9223372036854775808) := Lib.hid (by unfold key; rw [if_pos hx, if_neg (by omega)])
  clear hx h
  go_enter Try.func65, Try.ntmps65
  go_wp2
  go_ret
  exact ⟨by rw [H.out]; rfl, rfl⟩
theorem key65 {x : Nat} (hl : x < 18446744073709551616) (w : World) : Calls Try.prog 65 #[.float .f64 x] w fun e w' => e = .returned (.int .u64 ((key x : Nat) : Int)) ∧ w = w' := by
  by_cases hx : Fl.num x
  · by_cases h : 9223372036854775808 ≤ x
    · exact key65_neg hx hl h w
    · exact key65_pos hx (by omega) w
  · exact key65_nan hx w

/-- What a comparison answers. -/
def cmpN (a b : Nat) : Int := if a < b then -1 else if b < a then 1 else 0

theorem isnan70 (x : Int) (w : World) : Calls Try.prog 70 #[.int .u64 x] w fun e w' => e = .returned (.bool false) ∧ w = w' := by
  go_enter Try.func70, Try.ntmps70
  go_wp2
  go_ret
  exact ⟨by simp, rfl⟩

theorem cmp64 (a b : Nat) (w : World) : Calls Try.prog 64 #[.int .u64 (a : Int), .int .u64 (b : Int)] w fun e w' => e = .returned (.int .i64 (cmpN a b)) ∧ w = w' := by
  by_cases h : a < b
  · have H : Hid (cmpN a b = -1) := Lib.hid (by unfold cmpN; rw [if_pos h])
    go_enter Try.func64, Try.ntmps64
    go_wp2_with (go_at_call 70; refine (isnan70 _ _).mono ?_; rintro e w' ⟨rfl, rfl⟩)
    go_ret
    exact ⟨by rw [H.out]; rfl, rfl⟩
  · by_cases h2 : b < a
    · have H : Hid (cmpN a b = 1) := Lib.hid (by unfold cmpN; rw [if_neg h, if_pos h2])
      go_enter Try.func64, Try.ntmps64
      go_wp2_with (go_at_call 70; refine (isnan70 _ _).mono ?_; rintro e w' ⟨rfl, rfl⟩)
      go_ret
      exact ⟨by rw [H.out]; rfl, rfl⟩
    · have H : Hid (cmpN a b = 0) := Lib.hid (by unfold cmpN; rw [if_neg h, if_neg h2])
      go_enter Try.func64, Try.ntmps64
      go_wp2_with (go_at_call 70; refine (isnan70 _ _).mono ?_; rintro e w' ⟨rfl, rfl⟩)
      go_ret
      exact ⟨by rw [H.out]; rfl, rfl⟩

theorem compare50 {x y : Nat} (hx : x < 18446744073709551616) (hy : y < 18446744073709551616) (w : World) : Calls Try.prog 50 #[.float .f64 x, .float .f64 y] w fun e w' => e = .returned (.int .i64 (cmpN (key x) (key y))) ∧ w = w' := by
  go_enter Try.func50, Try.ntmps50
  go_wp2_with fail
  refine (key65 hx _).mono ?_
  rintro e w' ⟨rfl, rfl⟩
  go_wp2_with fail
  refine (key65 hy _).mono ?_
  rintro e w' ⟨rfl, rfl⟩
  go_wp2_with fail
  refine (cmp64 _ _ _).mono ?_
  rintro e w' ⟨rfl, rfl⟩
  go_wp2_with fail
  go_ret
  exact ⟨rfl, rfl⟩

theorem same68 {x y : Nat} (hx : x < 18446744073709551616) (hy : y < 18446744073709551616) (w : World) : Calls Try.prog 68 #[.float .f64 x, .float .f64 y] w fun e w' => e = .returned (.bool (key x == key y)) ∧ w = w' := by
  go_enter Try.func68, Try.ntmps68
  go_wp2_with fail
  refine (key65 hx _).mono ?_
  rintro e w' ⟨rfl, rfl⟩
  go_wp2_with fail
  refine (key65 hy _).mono ?_
  rintro e w' ⟨rfl, rfl⟩
  go_wp2_with fail
  go_ret
  refine ⟨?_, rfl⟩
  show Ending.returned (.bool _) = _
  congr 2
  rw [Bool.eq_iff_iff]; simp; omega

set_option maxRecDepth 100000 in
theorem key60 {x : Nat} (hl : x < 18446744073709551616) (w : World) : Calls Try.prog 60 #[.float .f64 x] w fun e w' => e = .returned (.int .u64 ((key x : Nat) : Int)) ∧ w = w' := by
  have h1 := ext45
  by_cases hx : Fl.num x
  · by_cases h : 9223372036854775808 ≤ x
    · have h3 : (9223372036854775808 : Int) ≤ (x : Int) := by omega
      have H : Hid (((key x : Nat) : Int) = 18446744073709551615 - (x : Int)) := Lib.hid (by unfold key; rw [if_pos hx, if_pos h]; omega)
      have hn := not_u64 hl
      go_enter Try.func60, Try.ntmps60
      go_wp2_with (go_at_call 48; refine (nan_no hx hl _).mono ?_; rintro e w' ⟨rfl, rfl⟩)
      go_ret
      exact ⟨by rw [H.out]; rfl, rfl⟩
    · have h3 : ¬ (9223372036854775808 : Int) ≤ (x : Int) := by omega
      have H : Hid (key x = x + 9223372036854775808) := Lib.hid (by unfold key; rw [if_pos hx, if_neg h])
      have nn := Lib.hid (nan_no hx hl)
      clear hx hl h
      go_enter Try.func60, Try.ntmps60
      go_wp2_with fail
      refine (nn.out _).mono ?_
      rintro e w' ⟨rfl, rfl⟩
      clear h1
      go_upto_if 9 with (fail)
      refine wp_cond_false (by simp [Act.eval]; omega) ?_
      have hadd : ∀ w : World, (binOp .add 22 (.int .u64 (x : Int)) (.int .u64 9223372036854775808)).run Try.prog w = .ok (.int .u64 ((x : Int) + 9223372036854775808)) w := by
        intro w
        have : IntKind.u64.wrap ((x : Int) + 9223372036854775808) = (x : Int) + 9223372036854775808 := by rw [IntKind.wrap_u64]; omega
        simp only [binOp]
        simp [Op.intArith, this]
      go_wp2_with fail
      go_ret
      exact ⟨by rw [H.out]; rfl, rfl⟩
  · have H : Hid (key x = 18446744073709551615) := Lib.hid (by unfold key; rw [if_neg hx])
    go_enter Try.func60, Try.ntmps60
    go_wp2_with (go_at_call 48; refine (nan_yes hx hl _).mono ?_; rintro e w' ⟨rfl, rfl⟩)
    go_ret
    exact ⟨by rw [H.out]; rfl, rfl⟩

theorem same59 {x y : Nat} (hx : x < 18446744073709551616) (hy : y < 18446744073709551616) (w : World) : Calls Try.prog 59 #[.float .f64 x, .float .f64 y] w fun e w' => e = .returned (.bool (key x == key y)) ∧ w = w' := by
  go_enter Try.func59, Try.ntmps59
  go_wp2_with fail
  refine (key60 hx _).mono ?_
  rintro e w' ⟨rfl, rfl⟩
  go_wp2_with fail
  refine (key60 hy _).mono ?_
  rintro e w' ⟨rfl, rfl⟩
  go_wp2_with fail
  go_ret
  refine ⟨?_, rfl⟩
  show Ending.returned (.bool _) = _
  congr 2
  rw [Bool.eq_iff_iff]; simp; omega

theorem compare40 {x y : Nat} (hx : x < 18446744073709551616) (hy : y < 18446744073709551616) (w : World) : Calls Try.prog 40 #[.float .f64 x, .float .f64 y] w fun e w' => e = .returned (.int .i64 (cmpN (key x) (key y))) ∧ w = w' := by
  have kx := Lib.hid (key60 hx)
  have ky := Lib.hid (key60 hy)
  clear hx hy
  generalize key x = a at *
  generalize key y = b at *
  by_cases h : a < b
  · have H : Hid (cmpN a b = -1) := Lib.hid (by unfold cmpN; rw [if_pos h])
    go_enter Try.func40, Try.ntmps40
    go_wp2_with fail
    refine (kx.out _).mono ?_
    rintro e w' ⟨rfl, rfl⟩
    go_wp2_with fail
    refine (ky.out _).mono ?_
    rintro e w' ⟨rfl, rfl⟩
    go_wp2_with fail
    go_ret
    exact ⟨by rw [H.out]; rfl, rfl⟩
  · by_cases h2 : b < a
    · have H : Hid (cmpN a b = 1) := Lib.hid (by unfold cmpN; rw [if_neg h, if_pos h2])
      go_enter Try.func40, Try.ntmps40
      go_wp2_with fail
      refine (kx.out _).mono ?_
      rintro e w' ⟨rfl, rfl⟩
      go_wp2_with fail
      refine (ky.out _).mono ?_
      rintro e w' ⟨rfl, rfl⟩
      go_wp2_with fail
      refine (kx.out _).mono ?_
      rintro e w' ⟨rfl, rfl⟩
      go_wp2_with fail
      refine (ky.out _).mono ?_
      rintro e w' ⟨rfl, rfl⟩
      go_wp2_with fail
      go_ret
      exact ⟨by rw [H.out]; rfl, rfl⟩
    · have H : Hid (cmpN a b = 0) := Lib.hid (by unfold cmpN; rw [if_neg h, if_neg h2])
      go_enter Try.func40, Try.ntmps40
      go_wp2_with fail
      refine (kx.out _).mono ?_
      rintro e w' ⟨rfl, rfl⟩
      go_wp2_with fail
      refine (ky.out _).mono ?_
      rintro e w' ⟨rfl, rfl⟩
      go_wp2_with fail
      refine (kx.out _).mono ?_
      rintro e w' ⟨rfl, rfl⟩
      go_wp2_with fail
      refine (ky.out _).mono ?_
      rintro e w' ⟨rfl, rfl⟩
      go_wp2_with fail
      go_ret
      exact ⟨by rw [H.out]; rfl, rfl⟩

end Go.Proofs.Ytofjgnlolmaidaa
