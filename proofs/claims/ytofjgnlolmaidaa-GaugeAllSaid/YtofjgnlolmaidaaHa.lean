/- The reference's gauge: its blocks. -/
import Derived.Test.YtofjgnlolmaidaaGz
namespace Go.Proofs.Ytofjgnlolmaidaa
set_option linter.unusedVariables false
open Go.RowKit

/-- What the reference's gauge's blocks hold. -/
structure RefG (w : World) (b bc bb : Nat) (g : Gau) : Prop where
  c1 : ∃ (sl : Option Addr) (cap : Nat), w.cell? ⟨b, 0, none⟩ = some (.slice sl g.n cap) ∧ ∀ i, i < g.n → sl = some ⟨bb, 0, none⟩
  c2 : ∃ cap : Nat, w.cell? ⟨b, 1, none⟩ = some (.slice (some ⟨bc, 0, none⟩) (g.n + 1) cap)
  c3 : w.cell? ⟨b, 2, none⟩ = some (.int .i64 g.count)
  c4 : w.cell? ⟨b, 3, none⟩ = some (.int .i64 g.nans)
  c5 : w.cell? ⟨b, 4, none⟩ = some (.float .f64 g.least)
  c6 : w.cell? ⟨b, 5, none⟩ = some (.float .f64 g.greatest)
  c7 : w.cell? ⟨b, 6, none⟩ = some (.float .f64 g.mean)
  fz : ∀ o, w.frozen? ⟨b, o, none⟩ = false
  fc : ∀ o, w.frozen? ⟨bc, o, none⟩ = false
  bnd : ∀ i, i < g.n → w.cell? ⟨bb, i, none⟩ = some (.float .f64 (g.bs i))
  cel : ∀ i, i ≤ g.n → w.cell? ⟨bc, i, none⟩ = some (.int .i64 (g.cs i))
  lb : b < w.heap.size
  lc : bc < w.heap.size
  lbb : bb < w.heap.size
  ne : b ≠ bc
  neb : bb ≠ b
  nec : 0 < g.n → bb ≠ bc

theorem RefG.chg {w w' : World} {b bc bb : Nat} {g : Gau} {s : List Nat} (h : RefG w b bc bb g) (hc : Chg s w w') (hb : b ∉ s) (hbc : bc ∉ s) (hbb : bb ∉ s) : RefG w' b bc bb g := by
  have q : ∀ o, w'.cell? ⟨b, o, none⟩ = w.cell? ⟨b, o, none⟩ := fun o => hc.cell (p := ⟨b, o, none⟩) h.lb hb
  obtain ⟨sl, cap, e1, e1'⟩ := h.c1
  obtain ⟨cap2, e2⟩ := h.c2
  exact ⟨⟨sl, cap, (q 0).trans e1, e1'⟩, ⟨cap2, (q 1).trans e2⟩, (q 2).trans h.c3, (q 3).trans h.c4, (q 4).trans h.c5, (q 5).trans h.c6, (q 6).trans h.c7,
    fun o => (hc.frozen (p := ⟨b, o, none⟩) h.lb hb).trans (h.fz o), fun o => (hc.frozen (p := ⟨bc, o, none⟩) h.lc hbc).trans (h.fc o),
    fun i hi => (hc.cell (p := ⟨bb, i, none⟩) h.lbb hbb).trans (h.bnd i hi), fun i hi => (hc.cell (p := ⟨bc, i, none⟩) h.lc hbc).trans (h.cel i hi),
    Nat.lt_of_lt_of_le h.lb hc.size, Nat.lt_of_lt_of_le h.lc hc.size, Nat.lt_of_lt_of_le h.lbb hc.size, h.ne, h.neb, h.nec⟩

theorem RefG.drewN {w : World} {b bc bb : Nat} {g : Gau} (h : RefG w b bc bb g) (n : Nat) : RefG (w.drewN n) b bc bb g := h.chg ((Chg.refl [] w).drewN n) (by simp) (by simp) (by simp)

theorem RefG.set3 {w : World} {b bc bb : Nat} {g : Gau} (h : RefG w b bc bb g) (v : Int) : RefG (w.setCell ⟨b, 2, none⟩ (.int .i64 v)) b bc bb { g with count := v } := by
  obtain ⟨⟨sl, cap, c1, c1'⟩, ⟨cap2, c2⟩, c3, c4, c5, c6, c7, fz, fc, bnd, cel, lb, lc, lbb, ne, neb, nec⟩ := h
  exact ⟨⟨sl, cap, by rw [cell_other _ (by simp)]; exact c1, c1'⟩, ⟨cap2, by rw [cell_other _ (by simp)]; exact c2⟩, cell_same _ c3,
    by rw [cell_other _ (by simp)]; exact c4, by rw [cell_other _ (by simp)]; exact c5, by rw [cell_other _ (by simp)]; exact c6, by rw [cell_other _ (by simp)]; exact c7,
    by simpa using fz, by simpa using fc, fun i hi => (cell_other _ (fun e => neb (congrArg Addr.block e).symm)).trans (bnd i hi), fun i hi => (cell_other _ (fun e => ne (congrArg Addr.block e))).trans (cel i hi),
    by simpa [World.setCell] using lb, by simpa [World.setCell] using lc, by simpa [World.setCell] using lbb, ne, neb, nec⟩
theorem RefG.set4 {w : World} {b bc bb : Nat} {g : Gau} (h : RefG w b bc bb g) (v : Int) : RefG (w.setCell ⟨b, 3, none⟩ (.int .i64 v)) b bc bb { g with nans := v } := by
  obtain ⟨⟨sl, cap, c1, c1'⟩, ⟨cap2, c2⟩, c3, c4, c5, c6, c7, fz, fc, bnd, cel, lb, lc, lbb, ne, neb, nec⟩ := h
  exact ⟨⟨sl, cap, by rw [cell_other _ (by simp)]; exact c1, c1'⟩, ⟨cap2, by rw [cell_other _ (by simp)]; exact c2⟩, by rw [cell_other _ (by simp)]; exact c3,
    cell_same _ c4, by rw [cell_other _ (by simp)]; exact c5, by rw [cell_other _ (by simp)]; exact c6, by rw [cell_other _ (by simp)]; exact c7,
    by simpa using fz, by simpa using fc, fun i hi => (cell_other _ (fun e => neb (congrArg Addr.block e).symm)).trans (bnd i hi), fun i hi => (cell_other _ (fun e => ne (congrArg Addr.block e))).trans (cel i hi),
    by simpa [World.setCell] using lb, by simpa [World.setCell] using lc, by simpa [World.setCell] using lbb, ne, neb, nec⟩
theorem RefG.set5 {w : World} {b bc bb : Nat} {g : Gau} (h : RefG w b bc bb g) (v : Nat) : RefG (w.setCell ⟨b, 4, none⟩ (.float .f64 v)) b bc bb { g with least := v } := by
  obtain ⟨⟨sl, cap, c1, c1'⟩, ⟨cap2, c2⟩, c3, c4, c5, c6, c7, fz, fc, bnd, cel, lb, lc, lbb, ne, neb, nec⟩ := h
  exact ⟨⟨sl, cap, by rw [cell_other _ (by simp)]; exact c1, c1'⟩, ⟨cap2, by rw [cell_other _ (by simp)]; exact c2⟩, by rw [cell_other _ (by simp)]; exact c3,
    by rw [cell_other _ (by simp)]; exact c4, cell_same _ c5, by rw [cell_other _ (by simp)]; exact c6, by rw [cell_other _ (by simp)]; exact c7,
    by simpa using fz, by simpa using fc, fun i hi => (cell_other _ (fun e => neb (congrArg Addr.block e).symm)).trans (bnd i hi), fun i hi => (cell_other _ (fun e => ne (congrArg Addr.block e))).trans (cel i hi),
    by simpa [World.setCell] using lb, by simpa [World.setCell] using lc, by simpa [World.setCell] using lbb, ne, neb, nec⟩
theorem RefG.set6 {w : World} {b bc bb : Nat} {g : Gau} (h : RefG w b bc bb g) (v : Nat) : RefG (w.setCell ⟨b, 5, none⟩ (.float .f64 v)) b bc bb { g with greatest := v } := by
  obtain ⟨⟨sl, cap, c1, c1'⟩, ⟨cap2, c2⟩, c3, c4, c5, c6, c7, fz, fc, bnd, cel, lb, lc, lbb, ne, neb, nec⟩ := h
  exact ⟨⟨sl, cap, by rw [cell_other _ (by simp)]; exact c1, c1'⟩, ⟨cap2, by rw [cell_other _ (by simp)]; exact c2⟩, by rw [cell_other _ (by simp)]; exact c3,
    by rw [cell_other _ (by simp)]; exact c4, by rw [cell_other _ (by simp)]; exact c5, cell_same _ c6, by rw [cell_other _ (by simp)]; exact c7,
    by simpa using fz, by simpa using fc, fun i hi => (cell_other _ (fun e => neb (congrArg Addr.block e).symm)).trans (bnd i hi), fun i hi => (cell_other _ (fun e => ne (congrArg Addr.block e))).trans (cel i hi),
    by simpa [World.setCell] using lb, by simpa [World.setCell] using lc, by simpa [World.setCell] using lbb, ne, neb, nec⟩
theorem RefG.set7 {w : World} {b bc bb : Nat} {g : Gau} (h : RefG w b bc bb g) (v : Nat) : RefG (w.setCell ⟨b, 6, none⟩ (.float .f64 v)) b bc bb { g with mean := v } := by
  obtain ⟨⟨sl, cap, c1, c1'⟩, ⟨cap2, c2⟩, c3, c4, c5, c6, c7, fz, fc, bnd, cel, lb, lc, lbb, ne, neb, nec⟩ := h
  exact ⟨⟨sl, cap, by rw [cell_other _ (by simp)]; exact c1, c1'⟩, ⟨cap2, by rw [cell_other _ (by simp)]; exact c2⟩, by rw [cell_other _ (by simp)]; exact c3,
    by rw [cell_other _ (by simp)]; exact c4, by rw [cell_other _ (by simp)]; exact c5, by rw [cell_other _ (by simp)]; exact c6, cell_same _ c7,
    by simpa using fz, by simpa using fc, fun i hi => (cell_other _ (fun e => neb (congrArg Addr.block e).symm)).trans (bnd i hi), fun i hi => (cell_other _ (fun e => ne (congrArg Addr.block e))).trans (cel i hi),
    by simpa [World.setCell] using lb, by simpa [World.setCell] using lc, by simpa [World.setCell] using lbb, ne, neb, nec⟩
theorem RefG.setc {w : World} {b bc bb : Nat} {g : Gau} (h : RefG w b bc bb g) (c : Nat) (v : Int) (hc : c ≤ g.n) : RefG (w.setCell ⟨bc, c, none⟩ (.int .i64 v)) b bc bb { g with cs := fun i => if i = c then v else g.cs i } := by
  obtain ⟨⟨sl, cap, c1, c1'⟩, ⟨cap2, c2⟩, c3, c4, c5, c6, c7, fz, fc, bnd, cel, lb, lc, lbb, ne, neb, nec⟩ := h
  have hne : ∀ o, (⟨bc, c, none⟩ : Addr) ≠ ⟨b, o, none⟩ := fun o e => ne (congrArg Addr.block e).symm
  refine ⟨⟨sl, cap, by rw [cell_other _ (hne 0)]; exact c1, c1'⟩, ⟨cap2, by rw [cell_other _ (hne 1)]; exact c2⟩, by rw [cell_other _ (hne 2)]; exact c3,
    by rw [cell_other _ (hne 3)]; exact c4, by rw [cell_other _ (hne 4)]; exact c5, by rw [cell_other _ (hne 5)]; exact c6, by rw [cell_other _ (hne 6)]; exact c7,
    by simpa using fz, by simpa using fc, fun i hi => ?_, fun i hi => ?_,
    by simpa [World.setCell] using lb, by simpa [World.setCell] using lc, by simpa [World.setCell] using lbb, ne, neb, nec⟩
  · have := nec (Nat.lt_of_le_of_lt (Nat.zero_le i) hi)
    exact (cell_other _ (fun e => this (congrArg Addr.block e).symm)).trans (bnd i hi)
  · by_cases hic : i = c
    · subst hic
      simp only [if_true]
      exact cell_same _ (cel i hi)
    · simp only [if_neg hic]
      exact (cell_other _ (fun e => hic (congrArg Addr.off e).symm)).trans (cel i hi)
end Go.Proofs.Ytofjgnlolmaidaa
