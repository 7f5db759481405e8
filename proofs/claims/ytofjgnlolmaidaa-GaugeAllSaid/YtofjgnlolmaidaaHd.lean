/- The reference's Quantile. -/
import Derived.Test.YtofjgnlolmaidaaHa
import Derived.Deep.CutBlock
import Derived.Deep.DeepCutAuto
namespace Go.Proofs.Ytofjgnlolmaidaa
set_option linter.unusedVariables false
open Go.RowKit

namespace Fl
open Ieee
/-- A word cut to a whole number: the floor; one more where it is below the word. -/
theorem trunc_all {s M : Nat} (hs : fin s) (h0 : 0 ≤ val s) (h1 : val s ≤ (M : Int) * U) (hM : M < 9007199254740992) :
    ∃ t : Nat, floatToIntVal .f64 s .i64 = some (t : Int) ∧ (ord (ofI t) s == some .lt) = decide (t < ceilN s) ∧ (if t < ceilN s then t + 1 else t) = ceilN s ∧ t ≤ M := by
  have up := U_pos
  have hU : (C : Int) = U := C_cast
  have p := C_pos
  have hcl := (ceil_all hs h0 h1).1
  have e := toInt_fin hs
  have hle : V (rg s) / C ≤ ceilN s := by unfold ceilN; omega
  have ht : (FloatKind.f64.decode s).toInt .zero = some ((V (rg s) / C : Nat) : Int) := by
    show (double.read s).toInt .zero = _
    rw [e]
    by_cases hn : ng s = true
    · have hv : val s = -(V (rg s) : Int) := by unfold val; rw [if_pos hn]
      have v0 : V (rg s) = 0 := by omega
      rw [if_pos hn, v0, Nat.zero_div]; rfl
    · rw [if_neg hn]
  have hlM := Nat.le_trans hle hcl
  refine ⟨V (rg s) / C, ?_, ?_, ?_, hlM⟩
  · unfold floatToIntVal
    rw [ht]
    simp only
    generalize V (rg s) / C = a at hlM
    rw [if_pos (by simp [IntKind.min, IntKind.max, IntKind.bits, IntKind.signed]; omega)]
  · have hb : ((V (rg s) / C : Nat) : Int).natAbs < 9007199254740992 := by generalize V (rg s) / C = a at hlM ⊢; omega
    rw [lt_num (ofI_fin hb).num hs.num, ofI_val hb, Bool.eq_iff_iff]
    simp only [decide_eq_true_eq]
    by_cases hn : ng s = true
    · have hv : val s = -(V (rg s) : Int) := by unfold val; rw [if_pos hn]
      have v0 : V (rg s) = 0 := by omega
      have c0 := ceilN_neg h0 hn
      rw [hv, v0, Nat.zero_div, c0]; simp
    · have hv : val s = (V (rg s) : Int) := by unfold val; rw [if_neg hn]
      have hn' : ng s = false := by simpa using hn
      unfold ceilN
      rw [hv, hn', ← hU]
      have hdm := Nat.div_add_mod (V (rg s)) C
      have e1 : ((V (rg s) / C : Nat) : Int) * (C : Int) = ((C * (V (rg s) / C) : Nat) : Int) := by rw [Int.natCast_mul, Int.mul_comm]
      rw [e1]
      generalize V (rg s) / C = a at *
      generalize V (rg s) % C = r at *
      generalize V (rg s) = v at *
      generalize C * a = z at *
      by_cases hr : r = 0
      · subst hr; simp; omega
      · have : (r != 0) = true := by simp [hr]
        rw [this]; simp; omega
  · unfold ceilN at hle ⊢
    split
    · have : (!ng s && V (rg s) % C != 0).toNat ≤ 1 := by cases (!ng s && V (rg s) % C != 0) <;> simp
      omega
    · omega
theorem want_max {m : Int} {s : Nat} (h : 1 ≤ m) (hc : ¬ m < (ceilN s : Int)) : (if 1 < (ceilN s : Int) then (ceilN s : Int) else 1) = wantN m s := by
  unfold wantN; repeat' split
  all_goals omega
end Fl

set_option maxHeartbeats 4000000 in
set_option maxRecDepth 100000 in
theorem refquantile56 {w : World} {b bc bb : Nat} {g : Gau} {B : Int} (q : Nat) (h : RefG w b bc bb g) (hs : Sane g B) (hB : B ≤ 1000000000) :
    Calls Try.prog 56 #[.pointer (some ⟨b, 0, none⟩), .float .f64 q] w fun e w' => e = .returned (.tuple #[.float .f64 (quantile g q).1, .int .i64 (quantile g q).2]) ∧ w = w' := by
  cases hg : (Fl.ord q 0 == some .gt || Fl.ord q 0 == some .eq)
  · have H : Hid (quantile g q = (0, 1)) := Lib.hid (if_neg (by unfold isPart; rw [hg]; simp))
    clear h hs
    go_enter Try.func56, Try.ntmps56
    go_wp2_with fail
    go_ret2
    exact ⟨by rw [H.out]; rfl, rfl⟩
  cases hl : (Fl.ord q 4607182418800017408 == some .lt || Fl.ord q 4607182418800017408 == some .eq)
  · have H : Hid (quantile g q = (0, 1)) := Lib.hid (if_neg (by unfold isPart; rw [hl]; simp))
    clear h hs
    go_enter Try.func56, Try.ntmps56
    go_wp2_with fail
    go_ret2
    exact ⟨by rw [H.out]; rfl, rfl⟩
  have hp : isPart q = true := by unfold isPart; rw [hg, hl]; rfl
  have h3 := h.c3
  by_cases hz : g.count = 0
  · have H : Hid (quantile g q = (0, 6)) := Lib.hid (by unfold quantile; rw [if_pos hp, if_pos hz])
    rw [hz] at h3
    clear h hs hz hp
    go_enter Try.func56, Try.ntmps56
    go_wp2_with fail
    go_ret2
    exact ⟨by rw [H.out]; rfl, rfl⟩
  · have H : Hid (quantile g q = (qFrom g g.n 0 (Fl.wantN g.count (partW q g.count)), 0)) := Lib.hid (by unfold quantile; rw [if_pos hp, if_neg hz])
    have hz' : (g.count == 0) = false := by simpa using hz
    obtain ⟨pn, p0, p1⟩ := isPart_num hp
    have c0 := hs.c0
    have c1 := hs.c1
    have n64 := hs.n64
    obtain ⟨k, hk⟩ := Int.eq_ofNat_of_zero_le c0
    obtain ⟨p, ep, fp, lp, pp0, pp1, _⟩ := Fl.part_spec pn p0 p1 (n := k) (by omega)
    obtain ⟨t, t1, t2, t3, t4⟩ := Fl.trunc_all fp pp0 pp1 (by omega)
    have epw : partW q g.count = p := by unfold partW; rw [hk, ep]; rfl
    rw [epw] at H
    have r1 := fun w => run_float_arith (P := Try.prog) w .mul 25 .f64 q (Fl.ofI k) p ep
    rw [← hk] at r1
    rw [← Fl.ofI_floatOfInt] at r1 t2
    have r3 := fun w => run_convert_float_int (P := Try.prog) w 25 2 .f64 .i64 _ _ (by kernel_rfl) Try.underlying2 t1
    have cl := (Fl.ceil_all fp pp0 pp1).1
    have wm := Fl.want_max (m := g.count) (s := p) (by omega) (by omega)
    have cg : ¬ g.count < (Fl.ceilN p : Int) := by omega
    have wr := Fl.wantN_range (most := g.count) (s := p) (by omega)
    obtain ⟨wr1, wr2⟩ := wr
    generalize Fl.ceilN p = c at t2 t3 wm cl cg
    generalize hR : Fl.wantN g.count p = R at *
    obtain ⟨sl, cap, h1, h1'⟩ := h.c1
    obtain ⟨cap2, h2⟩ := h.c2
    have h6 := h.c6
    have BN := Lib.hid h.bnd
    have CE := Lib.hid h.cel
    have S0 := Lib.hid hs.s0
    have S1 := Lib.hid hs.s1
    have HSL := Lib.hid h1'
    have HR := Lib.hid hR
    have WM := Lib.hid wm
    have T3 := Lib.hid t3
    have kb : k ≤ 1000000000 := by omega
    clear h hs hz hp hR wm t1 ep epw hk pn p0 p1 pp0 pp1 fp h1' t3
    go_enter Try.func56, Try.ntmps56
    go_upto_if 36 with (fail)
    go_cut [7] (fun v wx => v = .int .i64 (c : Int) ∧ wx = w)
    case first =>
      by_cases htc : t < c
      · rw [decide_eq_true htc] at t2
        have E : Hid (t + 1 = c) := Lib.hid (by have := T3.out; rwa [if_pos htc] at this)
        go_wp2_with fail
        go_meet
        have := E.out
        exact ⟨by rw [← this]; go_num, rfl⟩
      · rw [decide_eq_false htc] at t2
        have E : Hid (t = c) := Lib.hid (by have := T3.out; rwa [if_neg htc] at this)
        go_wp2_with fail
        go_meet
        have := E.out
        exact ⟨by rw [← this], rfl⟩
    case rest =>
      obtain ⟨rfl, rfl⟩ := hcut
      clear t2 r1 r3
      go_upto_region 10 with (fail)
      have wm' := WM.out
      rw [wm']
      clear wm' 
      go_wp2_with fail
      go_loop [9, 8] (fun i r => ∃ (k : Nat) (v : Int), k ≤ g.n ∧ i = .int .i64 k ∧ r = .int .i64 v ∧ 0 ≤ v ∧ v < R ∧ qFrom g g.n 0 R = qFrom g (g.n - k) k (R - v)) (fun i _ => g.n - (intOf i).toNat)
      case atStart => exact ⟨0, 0, Nat.zero_le _, rfl, rfl, Int.le_refl _, by omega, by rw [Int.sub_zero]; rfl⟩
      case round =>
        obtain ⟨k, v, hk, rfl, rfl, v1, v2, hq⟩ := hrel
        have HQ := Lib.hid hq
        clear hq
        by_cases hlt : k < g.n
        · have hslk := HSL.out k hlt
          subst hslk
          have hbk := BN.out k hlt
          have hck := CE.out k (by omega)
          have s0 := S0.out k (by omega)
          have s1 := S1.out k (by omega)
          have hstep : qFrom g (g.n - k) k (R - v) = if R - v - g.cs k ≤ 0 then g.bs k else qFrom g (g.n - (k + 1)) (k + 1) (R - v - g.cs k) := by
            rw [show g.n - k = (g.n - (k + 1)) + 1 from by omega]; rfl
          by_cases hle : R ≤ v + g.cs k
          · have HS := Lib.hid (hstep.trans (if_pos (by omega)))
            clear hstep
            go_wp2_with fail
            go_ret2
            exact ⟨by rw [H.out, HQ.out, HS.out]; rfl, rfl⟩
          · have HS := Lib.hid (hstep.trans (if_neg (by omega)))
            clear hstep
            go_wp2_with fail
            go_round
            case rel => exact ⟨k + 1, v + g.cs k, by omega, by go_num, by go_num, by omega, by omega, by rw [show R - (v + g.cs k) = R - v - g.cs k by omega]; exact HQ.out.trans HS.out⟩
            case measure => simp [intOf]; omega
        · have hkn : k = g.n := by omega
          have HS : Hid (qFrom g (g.n - k) k (R - v) = g.greatest) := Lib.hid (by rw [hkn, Nat.sub_self]; rfl)
          clear hkn
          go_wp2_with fail
          go_ret2
          exact ⟨by rw [H.out, HQ.out, HS.out]; rfl, rfl⟩
end Go.Proofs.Ytofjgnlolmaidaa
