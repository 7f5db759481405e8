/- A gauge's quantile. -/
import Derived.Test.YtofjgnlolmaidaaGh
import Derived.Test.YtofjgnlolmaidaaGi
namespace Go.Proofs.Ytofjgnlolmaidaa
set_option linter.unusedVariables false
open Go.RowKit

def partW (q : Nat) (n : Int) : Nat := Fl.canonO (Ieee.double.mul q (Fl.ofI n))
def qFrom (g : Gau) : Nat → Nat → Int → Nat
  | 0, _, _ => g.greatest
  | d + 1, i, r => if r - g.cs i ≤ 0 then g.bs i else qFrom g d (i + 1) (r - g.cs i)
def isPart (q : Nat) : Bool := (Fl.ord q 0 == some .gt || Fl.ord q 0 == some .eq) && (Fl.ord q 4607182418800017408 == some .lt || Fl.ord q 4607182418800017408 == some .eq)
def quantile (g : Gau) (q : Nat) : Nat × Int :=
  if isPart q = true then (if g.count = 0 then (0, 6) else (qFrom g g.n 0 (Fl.wantN g.count (partW q g.count)), 0)) else (0, 1)

theorem isPart_num {q : Nat} (h : isPart q = true) : Fl.num q ∧ 0 ≤ Fl.val q ∧ Fl.val q ≤ Fl.U := by
  unfold isPart at h
  simp only [Bool.and_eq_true] at h
  obtain ⟨h1, h2⟩ := h
  have hn : Fl.num q := by
    by_cases hn : Fl.num q
    · exact hn
    · rw [Fl.ord_nan_l hn] at h1; cases h1
  rw [Fl.ge_num hn Fl.zero_num, Fl.zero_val] at h1
  rw [Fl.le_num hn Fl.one_fin.num, Fl.one_val] at h2
  exact ⟨hn, of_decide_eq_true h1, of_decide_eq_true h2⟩

theorem rank54 {q n : Nat} (hq : Fl.num q) (q0 : 0 ≤ Fl.val q) (q1 : Fl.val q ≤ Fl.U) (n1 : 1 ≤ n) (n2 : n ≤ 1000000000) (w : World) :
    Calls Try.prog 54 #[.float .f64 q, .int .i64 (n : Int)] w fun e w' => e = .returned (.int .i64 (Fl.wantN n (partW q n))) ∧ w = w' := by
  obtain ⟨p, e, fp, lp, p0, p1, _⟩ := Fl.part_spec hq q0 q1 (n := n) (by omega)
  have ep : partW q n = p := by unfold partW; rw [e]; rfl
  rw [ep]
  have r1 := fun w => run_float_arith (P := Try.prog) w .mul 25 .f64 q (Fl.ofI n) p e
  have k1 := Fl.ceilW_geAll (n := n) fp p0 p1 (by omega) (by omega)
  rw [← Fl.ofI_floatOfInt] at k1 r1
  have k3 := fun w => run_convert_float_int (P := Try.prog) w 25 2 .f64 .i64 _ _ (by kernel_rfl) Try.underlying2 (Fl.ceilW_intAll fp p0 p1 (by omega))
  have cc := (Fl.ceil_all fp p0 p1).1
  by_cases c1 : (n : Int) ≤ Fl.ceilN p
  · rw [decide_eq_true c1] at k1
    have H : Hid (Fl.wantN n p = n) := Lib.hid (if_pos c1)
    clear c1 k3 e ep
    go_enter Try.func54, Try.ntmps54
    go_wp2_with (go_at_call 44; refine (ceil_any fp.num _).mono ?_; rintro e w' ⟨rfl, rfl⟩)
    go_ret
    exact ⟨by rw [H.out]; rfl, rfl⟩
  · rw [decide_eq_false c1] at k1
    have H : Hid (Fl.wantN n p = if 1 ≤ (Fl.ceilN p : Int) then (Fl.ceilN p : Int) else 1) := Lib.hid (if_neg c1)
    clear c1 e ep
    generalize Fl.ceilN p = c at *
    have CA := Lib.hid (ceil_any fp.num)
    clear fp p0 p1 hq q0 q1
    generalize Fl.ceilW p = cw at *
    by_cases h1 : 1 ≤ (c : Int)
    · rw [if_pos h1] at H
      go_enter Try.func54, Try.ntmps54
      go_wp2_with (go_at_call 44; refine (CA.out _).mono ?_; rintro e w' ⟨rfl, rfl⟩)
      all_goals
        go_ret
        refine ⟨?_, rfl⟩
        rw [H.out]
        simp
        try omega
    · rw [if_neg h1] at H
      go_enter Try.func54, Try.ntmps54
      go_wp2_with (go_at_call 44; refine (CA.out _).mono ?_; rintro e w' ⟨rfl, rfl⟩)
      all_goals
        go_ret
        refine ⟨?_, rfl⟩
        rw [H.out]
        simp
        try omega

set_option maxHeartbeats 2000000 in
theorem quantile30 {w : World} {b bc bb : Nat} {g : Gau} {B : Int} (q : Nat) (h : GaugeAt w b bc bb g) (hs : Sane g B) (hB : B ≤ 1000000000) :
    Calls Try.prog 30 #[.pointer (some ⟨b, 0, none⟩), .float .f64 q] w fun e w' => e = .returned (.tuple #[.float .f64 (quantile g q).1, .int .i64 (quantile g q).2]) ∧ w = w' := by
  have T := Lib.hid (there51 h)
  cases hg : (Fl.ord q 0 == some .gt || Fl.ord q 0 == some .eq)
  · have H : Hid (quantile g q = (0, 1)) := Lib.hid (if_neg (by unfold isPart; rw [hg]; simp))
    clear h hs
    go_enter Try.func30, Try.ntmps30
    go_wp2_with (go_at_call 51; refine T.out.mono ?_; rintro e w' ⟨rfl, rfl⟩)
    go_ret2
    exact ⟨by rw [H.out]; rfl, rfl⟩
  cases hl : (Fl.ord q 4607182418800017408 == some .lt || Fl.ord q 4607182418800017408 == some .eq)
  · have H : Hid (quantile g q = (0, 1)) := Lib.hid (if_neg (by unfold isPart; rw [hl]; simp))
    clear h hs
    go_enter Try.func30, Try.ntmps30
    go_wp2_with (go_at_call 51; refine T.out.mono ?_; rintro e w' ⟨rfl, rfl⟩)
    go_ret2
    exact ⟨by rw [H.out]; rfl, rfl⟩
  have hp : isPart q = true := by unfold isPart; rw [hg, hl]; rfl
  have h3 := h.c3
  by_cases hz : g.count = 0
  · have H : Hid (quantile g q = (0, 6)) := Lib.hid (by unfold quantile; rw [if_pos hp, if_pos hz])
    rw [hz] at h3
    clear h hs hz hp
    go_enter Try.func30, Try.ntmps30
    go_wp2_with (go_at_call 51; refine T.out.mono ?_; rintro e w' ⟨rfl, rfl⟩)
    go_ret2
    exact ⟨by rw [H.out]; rfl, rfl⟩
  · have H : Hid (quantile g q = (qFrom g g.n 0 (Fl.wantN g.count (partW q g.count)), 0)) := Lib.hid (by unfold quantile; rw [if_pos hp, if_neg hz])
    have hz' : (g.count == 0) = false := by simpa using hz
    obtain ⟨pn, p0, p1⟩ := isPart_num hp
    have c0 := hs.c0
    have c1 := hs.c1
    have n64 := hs.n64
    obtain ⟨k, hk⟩ := Int.eq_ofNat_of_zero_le c0
    have R := rank54 pn p0 p1 (n := k) (by omega) (by omega)
    rw [← hk] at R
    have RR := Lib.hid R
    have wr := Fl.wantN_range (most := g.count) (s := partW q g.count) (by omega)
    obtain ⟨wr1, wr2⟩ := wr
    obtain ⟨sl, cap, h1, h1'⟩ := h.c1
    obtain ⟨cap2, h2⟩ := h.c2
    have h6 := h.c6
    have BN := Lib.hid h.bnd
    have CE := Lib.hid h.cel
    have S0 := Lib.hid hs.s0
    have S1 := Lib.hid hs.s1
    have HSL := Lib.hid h1'
    clear h hs hz hp R hk pn p0 p1 h1'
    generalize hR : Fl.wantN g.count (partW q g.count) = R at *
    have HR := Lib.hid hR
    clear hR
    go_enter Try.func30, Try.ntmps30
    go_wp2_with (first
      | (go_at_call 51; refine T.out.mono ?_; rintro e w' ⟨rfl, rfl⟩)
      | (go_at_call 54; refine (RR.out _).mono ?_; rintro e w' ⟨rfl, rfl⟩))
    go_loop [41, 6] (fun i r => ∃ (k : Nat) (v : Int), k ≤ g.n ∧ i = .int .i64 k ∧ r = .int .i64 v ∧ 1 ≤ v ∧ v ≤ 1000000000 ∧ qFrom g g.n 0 R = qFrom g (g.n - k) k v) (fun i _ => g.n - (intOf i).toNat)
    case atStart => exact ⟨0, R, Nat.zero_le _, rfl, rfl, wr1, by omega, rfl⟩
    case round =>
      obtain ⟨k, v, hk, rfl, rfl, v1, v2, hq⟩ := hrel
      have HQ := Lib.hid hq
      clear hq
      by_cases hlt : k < g.n
      · have hslk := HSL.out k hlt
        subst hslk
        have hbk := BN.out k hlt
        have hck := CE.out k (by omega)
        have s0 := S0.out k (by omega)
        have s1 := S1.out k (by omega)
        have hstep : qFrom g (g.n - k) k v = if v - g.cs k ≤ 0 then g.bs k else qFrom g (g.n - (k + 1)) (k + 1) (v - g.cs k) := by
          rw [show g.n - k = (g.n - (k + 1)) + 1 from by omega]; rfl
        by_cases hle : v - g.cs k ≤ 0
        · have HS := Lib.hid (hstep.trans (if_pos hle))
          clear hstep
          go_wp2_with fail
          go_ret2
          exact ⟨by rw [H.out, HQ.out, HS.out]; rfl, rfl⟩
        · have HS := Lib.hid (hstep.trans (if_neg hle))
          clear hstep
          go_wp2_with fail
          go_round
          case rel => exact ⟨k + 1, v - g.cs k, by omega, by go_num, by go_num, by omega, by omega, HQ.out.trans HS.out⟩
          case measure => simp [intOf]; omega
      · have hkn : k = g.n := by omega
        have HS : Hid (qFrom g (g.n - k) k v = g.greatest) := Lib.hid (by rw [hkn, Nat.sub_self]; rfl)
        clear hkn
        go_wp2_with fail
        go_ret2
        exact ⟨by rw [H.out, HQ.out, HS.out]; rfl, rfl⟩
end Go.Proofs.Ytofjgnlolmaidaa
