/- The opening check of layer 17's statements. -/
import Derived.Test.YtofjgnlolmaidaaGj
namespace Go.Proofs.Ytofjgnlolmaidaa
set_option linter.unusedVariables false
open Go.RowKit
attribute [local go_sem] run_store_float

def bg : Nat → Nat := fun i => if i = 0 then 0 else 4607182418800017408
def bg0 : Gau := gau0 2 bg
def bg1 : Gau := put bg0 13830554455654793216
def bg2 : Gau := put bg1 4617315517961601024
def bg3 : Gau := put bg2 9221120237041090561

theorem bg_fit : Fit 2 bg :=
  ⟨fun j hj => by
    rcases (by omega : j = 0 ∨ j = 1) with rfl | rfl
    · decide
    · decide, fun j h0 hj => by
    have : j = 1 := by omega
    subst this; decide⟩
theorem bg_wide : ∀ i, i < 2 → bg i < 18446744073709551616 := fun j hj => by
  rcases (by omega : j = 0 ∨ j = 1) with rfl | rfl
  · show (0 : Nat) < _; omega
  · show (4607182418800017408 : Nat) < _; omega
theorem bg_sane0 : Sane bg0 0 := sane0 bg_fit bg_wide (by omega)
theorem bg_sane1 : Sane bg1 1 := bg_sane0.put (by omega)
theorem bg_sane2 : Sane bg2 2 := bg_sane1.put (by omega)
theorem bg_sane3 : Sane bg3 3 := bg_sane2.put (by omega)
theorem bg_q : quantile bg3 4602678819172646912 = (0, 0) := by decide +kernel
theorem bg_c0 : bg3.cs 0 = 1 := by decide +kernel
theorem bg_c2 : bg3.cs 2 = 1 := by decide +kernel
theorem bg_count : bg3.count = 2 := by decide +kernel
theorem bg_nans : bg3.nans = 1 := by decide +kernel
theorem bg_mean : bg3.mean = 4611686018427387904 := by decide +kernel
theorem bg_n : bg3.n = 2 := by decide +kernel
theorem bg_s : smooth 4607182418800017408 4613937818241073152 4602678819172646912 = (4611686018427387904, 0) := by decide +kernel
theorem bg_e0 : (Fl.ord 0 0 == some .eq) = true := by decide +kernel
theorem bg_e2 : (Fl.ord 4611686018427387904 4611686018427387904 == some .eq) = true := by decide +kernel

theorem nan46 (w : World) : Calls Try.prog 46 #[] w fun e w' => e = .returned (.float .f64 9221120237041090561) ∧ w = w' := by
  have h := ext19
  go_enter Try.func46, Try.ntmps46
  go_wp2
  go_ret
  exact ⟨rfl, rfl⟩

set_option maxRecDepth 100000 in
set_option maxHeartbeats 2000000 in
theorem begun24 (w : World) : Calls Try.prog 24 #[] w fun e w' => e = .returned (.bool true) ∧ Below w.heap.size w w' := by
  have e0 := bg_e0
  have e2 := bg_e2
  go_enter Try.func24, Try.ntmps24
  go_wp2_with fail
  have hs1 : (w.alloc (.cells #[.float .f64 0, .float .f64 4607182418800017408] 25)).heap.size = w.heap.size + 1 := by simp
  have hB1 := (Below.refl w.heap.size w).alloc (Nat.le_refl _) (.cells #[.float .f64 0, .float .f64 4607182418800017408] 25)
  have N := new28 (some ⟨w.heap.size, 0, none⟩) 2 2 bg (by omega) (w.alloc (.cells #[.float .f64 0, .float .f64 4607182418800017408] 25)) bg_wide (fun i hi => ⟨w.heap.size, 0, rfl, by simp, (cell_new _ _ _ _ _ rfl).trans (by
    rcases (by omega : i = 0 ∨ i = 1) with rfl | rfl <;> rfl)⟩) nofun
  generalize w.alloc (.cells #[.float .f64 0, .float .f64 4607182418800017408] 25) = w1 at *
  refine N.mono ?_
  clear N
  rintro e w2 (⟨_, b, bc, bb, rfl, hg, lb, lbc, lbb, hb2⟩ | ⟨hn, _⟩)
  · have hB2 := hB1.trans (hb2.mono (by omega))
    clear hB1 hb2
    go_wp2_with fail
    refine (put29 hg bg_sane0 (by omega) (by omega)).mono ?_
    rintro e w3 ⟨rfl, hg3, hc3⟩
    go_wp2_with fail
    refine (put29 hg3 bg_sane1 (by omega) (by omega)).mono ?_
    rintro e w4 ⟨rfl, hg4, hc4⟩
    go_wp2_with fail
    refine (nan46 _).mono ?_
    rintro e w' ⟨rfl, rfl⟩
    go_wp2_with fail
    refine (put29 hg4 bg_sane2 (by omega) (by omega)).mono ?_
    rintro e w5 ⟨rfl, hg5, hc5⟩
    have hg5 : GaugeAt w5 b bc bb bg3 := hg5
    have hB5 := hB2.trans (((hc3.trans hc4).trans hc5).below hB2.size (by simp; omega))
    clear hB2 hc3 hc4 hc5 hg hg3 hg4
    go_wp2_with fail
    refine (quantile30 (g := bg3) _ hg5 bg_sane3 (by omega)).mono ?_
    rintro e w' ⟨rfl, rfl⟩
    rw [bg_q]
    go_wp2_with fail
    refine (cells38 hg5 bg_sane3.n64).mono ?_
    rintro e w6 ⟨d, cap, rfl, hi6, ld6, hb6⟩
    rw [bg_n]
    have hg6 := hg5.chg (Chg.of_below hb6 []) (by simp) (by simp) (by simp)
    have hB6 := hB5.trans (hb6.mono hB5.size)
    have l6 := hb6.size
    clear hb6 hg5 hB5
    go_wp2_with fail
    refine (look39 hg6).mono ?_
    rintro e w7 ⟨rfl, hb7⟩
    have i0 := (hb7.cell (p := ⟨d, 0, none⟩) hi6.lt).trans (hi6.cel 0 (by rw [bg_n]; omega))
    have i2 := (hb7.cell (p := ⟨d, 2, none⟩) hi6.lt).trans (hi6.cel 2 (by rw [bg_n]; omega))
    rw [bg_c0] at i0
    rw [bg_c2] at i2
    have ld := Nat.lt_of_lt_of_le hi6.lt hb7.size
    have hB7 := hB6.trans (hb7.mono hB6.size)
    clear hb7 hg6 hB6 hi6
    rw [bg_count, bg_nans, bg_mean]
    go_wp2_with fail
    refine (smooth25 _ _ _ _).mono ?_
    rintro e w8 ⟨rfl, nd, rfl⟩
    rw [bg_s]
    have hB8 := hB7.alloc hB7.size (.cells #[.int .i64 2, .int .i64 1, .float .f64 bg3.least, .float .f64 bg3.greatest, .float .f64 4611686018427387904] 76)
    clear hB7
    go_wp2_with fail
    go_ret
    exact ⟨rfl, hB8.trans ⟨rfl, rfl, rfl, Nat.le_refl _, fun _ _ => rfl⟩⟩
  · exact absurd bg_fit hn
end Go.Proofs.Ytofjgnlolmaidaa
