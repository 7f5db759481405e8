/- The walks through GaugeSmooth and GaugeNone. -/
import Derived.Test.YtofjgnlolmaidaaGk
namespace Go.Proofs.Ytofjgnlolmaidaa
set_option linter.unusedVariables false
open Go.RowKit
attribute [local go_sem] run_store_float

theorem max_fin {x : Nat} (h : Fl.fin x) : (Fl.ord (Fl.rg x) 9218868437227405311 == some .gt) = false := by
  have n1 := (Fl.rg_fin h).num
  have n2 : Fl.num 9218868437227405311 := by decide
  rw [Fl.gt_num n1 n2]
  refine decide_eq_false ?_
  have e : Fl.val (Fl.rg x) = (Fl.V (Fl.rg x) : Int) := by
    unfold Fl.val
    rw [show Fl.ng (Fl.rg x) = false from by unfold Fl.ng; rw [Nat.div_eq_of_lt (Fl.rg_lt x)]; rfl, show Fl.rg (Fl.rg x) = Fl.rg x from Nat.mod_eq_of_lt (Fl.rg_lt x)]; rfl
  have e2 : Fl.val 9218868437227405311 = (Fl.V 9218868437227405311 : Int) := by
    unfold Fl.val
    rw [show Fl.ng 9218868437227405311 = false from by decide, show Fl.rg 9218868437227405311 = 9218868437227405311 from by decide]; rfl
  rw [e, e2]
  have h' : Fl.rg x < 9218868437227405312 := h
  have := Fl.V_le (show Fl.rg x ≤ 9218868437227405311 from by omega)
  omega
theorem max_inf {x : Nat} (h : Fl.rg x = Fl.INF) : (Fl.ord (Fl.rg x) 9218868437227405311 == some .gt) = true := by rw [h]; decide +kernel

theorem isInf_fin {x : Nat} (hl : x < 18446744073709551616) (h : Fl.fin x) (w : World) : Calls Try.prog 27 #[.float .f64 x, .int .i64 0] w fun e w' => e = .returned (.bool false) ∧ w = w' := by
  have h1 := max_fin h
  have A := Lib.hid (abs_any hl)
  clear hl h
  go_enter Try.func27, Try.ntmps27
  go_wp2_with (go_at_call 41; refine (A.out _).mono ?_; rintro e w' ⟨rfl, rfl⟩)
  go_ret
  exact ⟨rfl, rfl⟩
theorem isInf_inf {x : Nat} (hl : x < 18446744073709551616) (h : Fl.rg x = Fl.INF) (w : World) : Calls Try.prog 27 #[.float .f64 x, .int .i64 0] w fun e w' => e = .returned (.bool true) ∧ w = w' := by
  have h1 := max_inf h
  have A := Lib.hid (abs_any hl)
  clear hl h
  go_enter Try.func27, Try.ntmps27
  go_wp2_with (go_at_call 41; refine (A.out _).mono ?_; rintro e w' ⟨rfl, rfl⟩)
  go_ret
  exact ⟨rfl, rfl⟩

theorem bits22 (x : Nat) (w : World) : Calls Try.prog 22 #[.float .f64 x, .float .f64 x] w fun e w' => e = .returned (.bool true) ∧ w = w' := by
  have h1 := ext45
  go_enter Try.func22, Try.ntmps22
  go_wp2
  go_ret
  exact ⟨by simp, rfl⟩

set_option maxHeartbeats 2000000 in
theorem smooth_any (v x a : Int) (hv : 0 ≤ v ∧ v < 18446744073709551616) (hx : 0 ≤ x ∧ x < 18446744073709551616) (w : World) :
    Calls Try.prog 6 #[.int .u64 v, .int .u64 x, .int .u64 a] w fun e w' => e = .returned (.bool true) ∧ Below w.heap.size w w' := by
  have lv : v.toNat < 18446744073709551616 := by omega
  have lx : x.toNat < 18446744073709551616 := by omega
  generalize ev : v.toNat = vn at lv
  generalize ex : x.toNat = xn at lx
  have F1 : ∀ w : World, (callFunc 19 #[.int .u64 v]).run Try.prog w = .ok (.value (.float .f64 vn)) w := fun w => by rw [ext19, ev]
  have F2 : ∀ w : World, (callFunc 19 #[.int .u64 x]).run Try.prog w = .ok (.value (.float .f64 xn)) w := fun w => by rw [ext19, ex]
  have F3 := fun w => ext19 a w
  have S2 := Lib.hid (smooth26 a.toNat lv lx)
  have NF := Lib.hid (fun (h : Fl.fin vn) w => isInf_fin lv h w)
  have NI := Lib.hid (fun (h : Fl.rg vn = Fl.INF) w => isInf_inf lv h w)
  clear lv lx ev ex hv hx
  generalize hA : smooth vn xn a.toNat = sA at S2
  obtain ⟨s1, s2⟩ := sA
  have HA := Lib.hid hA
  clear hA
  by_cases hn : Fl.num vn
  · by_cases hf : Fl.fin vn
    · have E := smooth_self hf
      generalize hS : (smooth vn vn 4607182418800017408).1 = sv at E
      have HS := Lib.hid hS
      have HN : Hid ((!decide (Fl.num vn)) = false) := Lib.hid (by rw [decide_eq_true hn]; rfl)
      have HI := Lib.hid (NF.out hf)
      clear hS hn hf NF NI
      go_enter Try.func6, Try.ntmps6
      go_wp2_with fail
      refine (begun24 _).mono ?_
      rintro e w1 ⟨rfl, hb1⟩
      go_wp2_with fail
      refine (smooth25 _ _ _ _).mono ?_
      rintro e w2 ⟨rfl, n2, rfl⟩
      rw [HA.out]
      go_wp2_with fail
      refine (S2.out _).mono ?_
      rintro e w2 ⟨rfl, n3, rfl⟩
      go_wp2_with fail
      refine (bits22 _ _).mono ?_
      rintro e w' ⟨rfl, rfl⟩
      go_wp2_with fail
      refine (smooth25 _ _ _ _).mono ?_
      rintro e w2 ⟨rfl, n4, rfl⟩
      rw [HS.out]
      go_wp2_with fail
      refine (isNaN_any _ _).mono ?_
      rintro e w' ⟨rfl, rfl⟩
      rw [HN.out]
      go_wp2_with (go_at_call 27; refine (HI.out _).mono ?_; rintro e w' ⟨rfl, rfl⟩)
      go_ret
      exact ⟨rfl, hb1.trans ⟨rfl, rfl, rfl, Nat.le_refl _, fun _ _ => rfl⟩⟩
    · have hI : Fl.rg vn = Fl.INF := Nat.le_antisymm hn (Nat.le_of_not_lt hf)
      have HN : Hid ((!decide (Fl.num vn)) = false) := Lib.hid (by rw [decide_eq_true hn]; rfl)
      have HI := Lib.hid (NI.out hI)
      clear hn hf NF NI hI
      go_enter Try.func6, Try.ntmps6
      go_wp2_with fail
      refine (begun24 _).mono ?_
      rintro e w1 ⟨rfl, hb1⟩
      go_wp2_with fail
      refine (smooth25 _ _ _ _).mono ?_
      rintro e w2 ⟨rfl, n2, rfl⟩
      rw [HA.out]
      go_wp2_with fail
      refine (S2.out _).mono ?_
      rintro e w2 ⟨rfl, n3, rfl⟩
      go_wp2_with fail
      refine (bits22 _ _).mono ?_
      rintro e w' ⟨rfl, rfl⟩
      go_wp2_with fail
      refine (smooth25 _ _ _ _).mono ?_
      rintro e w2 ⟨rfl, n4, rfl⟩
      go_wp2_with fail
      refine (isNaN_any _ _).mono ?_
      rintro e w' ⟨rfl, rfl⟩
      rw [HN.out]
      go_wp2_with (go_at_call 27; refine (HI.out _).mono ?_; rintro e w' ⟨rfl, rfl⟩)
      go_ret
      exact ⟨rfl, hb1.trans ⟨rfl, rfl, rfl, Nat.le_refl _, fun _ _ => rfl⟩⟩
  · have HN : Hid ((!decide (Fl.num vn)) = true) := Lib.hid (by rw [decide_eq_false hn]; rfl)
    clear hn NF NI
    go_enter Try.func6, Try.ntmps6
    go_wp2_with fail
    refine (begun24 _).mono ?_
    rintro e w1 ⟨rfl, hb1⟩
    go_wp2_with fail
    refine (smooth25 _ _ _ _).mono ?_
    rintro e w2 ⟨rfl, n2, rfl⟩
    rw [HA.out]
    go_wp2_with fail
    refine (S2.out _).mono ?_
    rintro e w2 ⟨rfl, n3, rfl⟩
    go_wp2_with fail
    refine (bits22 _ _).mono ?_
    rintro e w' ⟨rfl, rfl⟩
    go_wp2_with fail
    refine (smooth25 _ _ _ _).mono ?_
    rintro e w2 ⟨rfl, n4, rfl⟩
    go_wp2_with fail
    refine (isNaN_any _ _).mono ?_
    rintro e w' ⟨rfl, rfl⟩
    rw [HN.out]
    go_wp2_with fail
    go_ret
    exact ⟨rfl, hb1.trans ⟨rfl, rfl, rfl, Nat.le_refl _, fun _ _ => rfl⟩⟩

theorem put_nil (x : Nat) (w : World) : Calls Try.prog 29 #[.pointer none, .float .f64 x] w fun e w' => e = .returned (.tuple #[]) ∧ w = w' := by
  go_enter Try.func29, Try.ntmps29
  go_wp2_with (go_at_call 51; refine (there51_nil _).mono ?_; rintro e w' ⟨rfl, rfl⟩)
  exact bodyPost_ret (results_none rfl _ _ _) rfl ⟨rfl, rfl⟩
theorem quantile_nil (x : Nat) (w : World) : Calls Try.prog 30 #[.pointer none, .float .f64 x] w fun e w' => e = .returned (.tuple #[.float .f64 0, .int .i64 1]) ∧ w = w' := by
  go_enter Try.func30, Try.ntmps30
  go_wp2_with (go_at_call 51; refine (there51_nil _).mono ?_; rintro e w' ⟨rfl, rfl⟩)
  go_ret2
  exact ⟨rfl, rfl⟩
theorem cells_nil (w : World) : Calls Try.prog 38 #[.pointer none] w fun e w' => e = .returned (.slice none 0 0) ∧ w = w' := by
  go_enter Try.func38, Try.ntmps38
  go_wp2_with (go_at_call 51; refine (there51_nil _).mono ?_; rintro e w' ⟨rfl, rfl⟩)
  go_ret
  exact ⟨rfl, rfl⟩
theorem look_nil (w : World) : Calls Try.prog 39 #[.pointer none] w fun e w' => e = .returned (.agg #[.int .i64 0, .int .i64 0, .float .f64 0, .float .f64 0, .float .f64 0]) ∧ Below w.heap.size w w' := by
  go_enter Try.func39, Try.ntmps39
  go_wp2_with (go_at_call 51; refine (there51_nil _).mono ?_; rintro e w' ⟨rfl, rfl⟩)
  exact bodyPost_ret (v := .agg #[.int .i64 0, .int .i64 0, .float .f64 0, .float .f64 0, .float .f64 0]) (by simp [results, Try.results39, go_sem]) rfl ⟨rfl, (Below.refl _ _).alloc (Nat.le_refl _) _⟩
theorem merge_nil_left (p : Value) (w : World) : Calls Try.prog 35 #[.pointer none, p] w fun e w' => e = .returned (.int .i64 1) ∧ w = w' := by
  go_enter Try.func35, Try.ntmps35
  go_wp2_with (go_at_call 51; refine (there51_nil _).mono ?_; rintro e w' ⟨rfl, rfl⟩)
  go_ret
  exact ⟨rfl, rfl⟩

theorem eql_look (w : World) : (binOp .eql 76 (.agg #[.int .i64 0, .int .i64 0, .float .f64 0, .float .f64 0, .float .f64 0]) (.agg #[.int .i64 0, .int .i64 0, .float .f64 0, .float .f64 0, .float .f64 0])).run Try.prog w = .ok (.bool true) w := by kernel_rfl

theorem gnone_any (u : Int) (w : World) : Calls Try.prog 10 #[.int .u64 u] w fun e w' => e = .returned (.bool true) ∧ Below w.heap.size w w' := by
  have f19 := ext19
  have e0 := bg_e0
  have el := eql_look
  go_enter Try.func10, Try.ntmps10
  go_wp2_with fail
  refine (begun24 _).mono ?_
  rintro e w1 ⟨rfl, hb1⟩
  go_wp2_with (first
    | (go_at_call 29; refine (put_nil _ _).mono ?_; rintro e w' ⟨rfl, rfl⟩)
    | (go_at_call 30; refine (quantile_nil _ _).mono ?_; rintro e w' ⟨rfl, rfl⟩)
    | (go_at_call 38; refine (cells_nil _).mono ?_; rintro e w' ⟨rfl, rfl⟩))
  refine (look_nil _).mono ?_
  rintro e w2 ⟨rfl, hb2⟩
  go_wp2_with (go_at_call 35; refine (merge_nil_left _ _).mono ?_; rintro e w' ⟨rfl, rfl⟩)
  go_ret
  exact ⟨rfl, hb1.trans (hb2.mono hb1.size)⟩
end Go.Proofs.Ytofjgnlolmaidaa
