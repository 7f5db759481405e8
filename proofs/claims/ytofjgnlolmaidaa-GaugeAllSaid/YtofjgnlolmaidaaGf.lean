/- Putting a number into a gauge. -/
import Derived.Test.YtofjgnlolmaidaaGe
namespace Go.Proofs.Ytofjgnlolmaidaa
set_option linter.unusedVariables false
open Go.RowKit
attribute [local go_sem ↓] Go.wp_at_zero Go.wp_at_succ
attribute [local go_sem] run_store_float

def ixFrom (bs : Nat → Nat) (x : Nat) : Nat → Nat → Nat
  | 0, i => i
  | d + 1, i => if key x ≤ key (bs i) then i else ixFrom bs x d (i + 1)
def ix (g : Gau) (x : Nat) : Nat := ixFrom g.bs x g.n 0
theorem ixFrom_is {g : Gau} {x c : Nat} (h : IxIs g x c) : ∀ d i, i + d = g.n → i ≤ c → ixFrom g.bs x d i = c := by
  intro d
  induction d with
  | zero => intro i h1 h2; have := h.1; simp only [ixFrom]; omega
  | succ d ih =>
    intro i h1 h2
    simp only [ixFrom]
    by_cases hk : key x ≤ key (g.bs i)
    · rw [if_pos hk]
      rcases Nat.lt_or_eq_of_le h2 with e | e
      · have := h.2.1 i e; omega
      · exact e
    · rw [if_neg hk]
      rcases Nat.lt_or_eq_of_le h2 with e | e
      · exact ih (i + 1) (by omega) e
      · exact absurd (h.2.2 i (by omega) (by omega)) hk
theorem ix_is {g : Gau} {x c : Nat} (h : IxIs g x c) : ix g x = c := ixFrom_is h g.n 0 (by omega) (Nat.zero_le _)

def meanPut (m x : Nat) (k : Int) : Nat := Fl.canonO ((Ieee.double.sub x m).bind fun d => (Ieee.double.div d (Fl.ofI k)).bind fun q => Ieee.double.add m q)
theorem canon_mean (m x : Nat) (k : Int) (w0 w1 w2 : World) : Fl.canon (fopR .add m (fopR .quo (fopR .sub x m w0) (floatOfInt .f64 k) w1) w2) = meanPut m x k := by
  rw [canon_add, Fl.ofI_floatOfInt]
  unfold meanPut
  cases h0 : Ieee.double.sub x m with
  | none => rw [add_nan_r (fopR_none (op := .quo) w1 (div_nan_l (fopR_none (op := .sub) w0 h0)))]; rfl
  | some d =>
    rw [fopR_some (op := .sub) w0 h0]
    simp only [Option.bind_some]
    cases h1 : Ieee.double.div d (Fl.ofI k) with
    | none => rw [add_nan_r (fopR_none (op := .quo) w1 h1)]; rfl
    | some y => rw [fopR_some (op := .quo) w1 h1]; rfl

def leastOf (g : Gau) (x : Nat) : Nat := if g.count = 0 ∨ key x < key g.least then x else g.least
def greatestOf (g : Gau) (x : Nat) : Nat := if g.count = 0 ∨ key g.greatest < key x then x else g.greatest

/-- A gauge that was told a number. -/
def put (g : Gau) (x : Nat) : Gau :=
  if Fl.num x then { g with cs := fun i => if i = ix g x then g.cs i + 1 else g.cs i, count := g.count + 1, least := leastOf g x, greatest := greatestOf g x, mean := meanPut g.mean x (g.count + 1) }
  else { g with nans := g.nans + 1 }

/-- Its numbers are within B, its words fit. -/
structure Sane (g : Gau) (B : Int) : Prop where
  c0 : 0 ≤ g.count
  c1 : g.count ≤ B
  n0 : 0 ≤ g.nans
  n1 : g.nans ≤ B
  s0 : ∀ i, i ≤ g.n → 0 ≤ g.cs i
  s1 : ∀ i, i ≤ g.n → g.cs i ≤ B
  le : g.least < 18446744073709551616
  gr : g.greatest < 18446744073709551616
  fit : Fit g.n g.bs
  wide : Wide g
  n64 : g.n ≤ 64

theorem GaugeAt.set3 {w : World} {b bc bb : Nat} {g : Gau} (h : GaugeAt w b bc bb g) (v : Int) : GaugeAt (w.setCell ⟨b, 3, none⟩ (.int .i64 v)) b bc bb { g with count := v } := by
  obtain ⟨c0, ⟨sl, cap, c1, c1'⟩, ⟨cap2, c2⟩, c3, c4, c5, c6, c7, fz, fc, bnd, cel, lb, lc, lbb, ne, neb, nec⟩ := h
  exact ⟨by rw [cell_other _ (by simp)]; exact c0, ⟨sl, cap, by rw [cell_other _ (by simp)]; exact c1, c1'⟩, ⟨cap2, by rw [cell_other _ (by simp)]; exact c2⟩, cell_same _ c3,
    by rw [cell_other _ (by simp)]; exact c4, by rw [cell_other _ (by simp)]; exact c5, by rw [cell_other _ (by simp)]; exact c6, by rw [cell_other _ (by simp)]; exact c7,
    by simpa using fz, by simpa using fc, fun i hi => (cell_other _ (fun e => neb (congrArg Addr.block e).symm)).trans (bnd i hi), fun i hi => (cell_other _ (fun e => ne (congrArg Addr.block e))).trans (cel i hi),
    by simpa [World.setCell] using lb, by simpa [World.setCell] using lc, by simpa [World.setCell] using lbb, ne, neb, nec⟩
theorem GaugeAt.set4 {w : World} {b bc bb : Nat} {g : Gau} (h : GaugeAt w b bc bb g) (v : Int) : GaugeAt (w.setCell ⟨b, 4, none⟩ (.int .i64 v)) b bc bb { g with nans := v } := by
  obtain ⟨c0, ⟨sl, cap, c1, c1'⟩, ⟨cap2, c2⟩, c3, c4, c5, c6, c7, fz, fc, bnd, cel, lb, lc, lbb, ne, neb, nec⟩ := h
  exact ⟨by rw [cell_other _ (by simp)]; exact c0, ⟨sl, cap, by rw [cell_other _ (by simp)]; exact c1, c1'⟩, ⟨cap2, by rw [cell_other _ (by simp)]; exact c2⟩, by rw [cell_other _ (by simp)]; exact c3,
    cell_same _ c4, by rw [cell_other _ (by simp)]; exact c5, by rw [cell_other _ (by simp)]; exact c6, by rw [cell_other _ (by simp)]; exact c7,
    by simpa using fz, by simpa using fc, fun i hi => (cell_other _ (fun e => neb (congrArg Addr.block e).symm)).trans (bnd i hi), fun i hi => (cell_other _ (fun e => ne (congrArg Addr.block e))).trans (cel i hi),
    by simpa [World.setCell] using lb, by simpa [World.setCell] using lc, by simpa [World.setCell] using lbb, ne, neb, nec⟩
theorem GaugeAt.set5 {w : World} {b bc bb : Nat} {g : Gau} (h : GaugeAt w b bc bb g) (v : Nat) : GaugeAt (w.setCell ⟨b, 5, none⟩ (.float .f64 v)) b bc bb { g with least := v } := by
  obtain ⟨c0, ⟨sl, cap, c1, c1'⟩, ⟨cap2, c2⟩, c3, c4, c5, c6, c7, fz, fc, bnd, cel, lb, lc, lbb, ne, neb, nec⟩ := h
  exact ⟨by rw [cell_other _ (by simp)]; exact c0, ⟨sl, cap, by rw [cell_other _ (by simp)]; exact c1, c1'⟩, ⟨cap2, by rw [cell_other _ (by simp)]; exact c2⟩, by rw [cell_other _ (by simp)]; exact c3,
    by rw [cell_other _ (by simp)]; exact c4, cell_same _ c5, by rw [cell_other _ (by simp)]; exact c6, by rw [cell_other _ (by simp)]; exact c7,
    by simpa using fz, by simpa using fc, fun i hi => (cell_other _ (fun e => neb (congrArg Addr.block e).symm)).trans (bnd i hi), fun i hi => (cell_other _ (fun e => ne (congrArg Addr.block e))).trans (cel i hi),
    by simpa [World.setCell] using lb, by simpa [World.setCell] using lc, by simpa [World.setCell] using lbb, ne, neb, nec⟩
theorem GaugeAt.set6 {w : World} {b bc bb : Nat} {g : Gau} (h : GaugeAt w b bc bb g) (v : Nat) : GaugeAt (w.setCell ⟨b, 6, none⟩ (.float .f64 v)) b bc bb { g with greatest := v } := by
  obtain ⟨c0, ⟨sl, cap, c1, c1'⟩, ⟨cap2, c2⟩, c3, c4, c5, c6, c7, fz, fc, bnd, cel, lb, lc, lbb, ne, neb, nec⟩ := h
  exact ⟨by rw [cell_other _ (by simp)]; exact c0, ⟨sl, cap, by rw [cell_other _ (by simp)]; exact c1, c1'⟩, ⟨cap2, by rw [cell_other _ (by simp)]; exact c2⟩, by rw [cell_other _ (by simp)]; exact c3,
    by rw [cell_other _ (by simp)]; exact c4, by rw [cell_other _ (by simp)]; exact c5, cell_same _ c6, by rw [cell_other _ (by simp)]; exact c7,
    by simpa using fz, by simpa using fc, fun i hi => (cell_other _ (fun e => neb (congrArg Addr.block e).symm)).trans (bnd i hi), fun i hi => (cell_other _ (fun e => ne (congrArg Addr.block e))).trans (cel i hi),
    by simpa [World.setCell] using lb, by simpa [World.setCell] using lc, by simpa [World.setCell] using lbb, ne, neb, nec⟩
theorem GaugeAt.set7 {w : World} {b bc bb : Nat} {g : Gau} (h : GaugeAt w b bc bb g) (v : Nat) : GaugeAt (w.setCell ⟨b, 7, none⟩ (.float .f64 v)) b bc bb { g with mean := v } := by
  obtain ⟨c0, ⟨sl, cap, c1, c1'⟩, ⟨cap2, c2⟩, c3, c4, c5, c6, c7, fz, fc, bnd, cel, lb, lc, lbb, ne, neb, nec⟩ := h
  exact ⟨by rw [cell_other _ (by simp)]; exact c0, ⟨sl, cap, by rw [cell_other _ (by simp)]; exact c1, c1'⟩, ⟨cap2, by rw [cell_other _ (by simp)]; exact c2⟩, by rw [cell_other _ (by simp)]; exact c3,
    by rw [cell_other _ (by simp)]; exact c4, by rw [cell_other _ (by simp)]; exact c5, by rw [cell_other _ (by simp)]; exact c6, cell_same _ c7,
    by simpa using fz, by simpa using fc, fun i hi => (cell_other _ (fun e => neb (congrArg Addr.block e).symm)).trans (bnd i hi), fun i hi => (cell_other _ (fun e => ne (congrArg Addr.block e))).trans (cel i hi),
    by simpa [World.setCell] using lb, by simpa [World.setCell] using lc, by simpa [World.setCell] using lbb, ne, neb, nec⟩
theorem GaugeAt.setc {w : World} {b bc bb : Nat} {g : Gau} (h : GaugeAt w b bc bb g) (c : Nat) (v : Int) (hc : c ≤ g.n) : GaugeAt (w.setCell ⟨bc, c, none⟩ (.int .i64 v)) b bc bb { g with cs := fun i => if i = c then v else g.cs i } := by
  obtain ⟨c0, ⟨sl, cap, c1, c1'⟩, ⟨cap2, c2⟩, c3, c4, c5, c6, c7, fz, fc, bnd, cel, lb, lc, lbb, ne, neb, nec⟩ := h
  have hne : ∀ o, (⟨bc, c, none⟩ : Addr) ≠ ⟨b, o, none⟩ := fun o e => ne (congrArg Addr.block e).symm
  refine ⟨by rw [cell_other _ (hne 0)]; exact c0, ⟨sl, cap, by rw [cell_other _ (hne 1)]; exact c1, c1'⟩, ⟨cap2, by rw [cell_other _ (hne 2)]; exact c2⟩, by rw [cell_other _ (hne 3)]; exact c3,
    by rw [cell_other _ (hne 4)]; exact c4, by rw [cell_other _ (hne 5)]; exact c5, by rw [cell_other _ (hne 6)]; exact c6, by rw [cell_other _ (hne 7)]; exact c7,
    by simpa using fz, by simpa using fc, fun i hi => ?_, fun i hi => ?_,
    by simpa [World.setCell] using lb, by simpa [World.setCell] using lc, by simpa [World.setCell] using lbb, ne, neb, nec⟩
  · have := nec (Nat.lt_of_le_of_lt (Nat.zero_le i) hi)
    exact (cell_other _ (fun e => this (congrArg Addr.block e).symm)).trans (bnd i hi)
  · by_cases hic : i = c
    · subst hic
      simp only [if_true]
      exact cell_same _ (cel i hi)
    · simp only [if_neg hic]
      exact (cell_other _ (fun e => hic (congrArg Addr.off e).symm)).trans (cel i hi)
end Go.Proofs.Ytofjgnlolmaidaa
