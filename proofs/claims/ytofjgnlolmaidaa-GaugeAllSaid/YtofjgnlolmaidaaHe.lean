/- The reference's Merge. -/
import Derived.Test.YtofjgnlolmaidaaHa
import Derived.Deep.CutBlock
import Derived.Deep.DeepCutAuto
import Derived.BigQuiet
namespace Go.Proofs.Ytofjgnlolmaidaa
set_option linter.unusedVariables false
open Go.RowKit
attribute [local go_sem] run_store_float run_fop_add run_fop_sub run_fop_mul run_fop_quo

theorem alikeFrom_true {g o : Gau} : ∀ d i, alikeFrom g o d i = true → ∀ j, i ≤ j → j < i + d → key (g.bs j) = key (o.bs j)
  | 0, _, _ => fun j h1 h2 => by omega
  | d + 1, i, h => fun j h1 h2 => by
    simp only [alikeFrom] at h
    by_cases hk : key (g.bs i) = key (o.bs i)
    · rw [if_pos hk] at h
      by_cases hj : j = i
      · rw [hj]; exact hk
      · exact alikeFrom_true d (i + 1) h j (by omega) (by omega)
    · rw [if_neg hk] at h; cases h
theorem alikeFrom_false {g o : Gau} : ∀ d i, alikeFrom g o d i = false → ∃ m, i ≤ m ∧ m < i + d ∧ (∀ j, i ≤ j → j < m → key (g.bs j) = key (o.bs j)) ∧ ¬ key (g.bs m) = key (o.bs m)
  | 0, _, h => by cases h
  | d + 1, i, h => by
    simp only [alikeFrom] at h
    by_cases hk : key (g.bs i) = key (o.bs i)
    · rw [if_pos hk] at h
      obtain ⟨m, m1, m2, m3, m4⟩ := alikeFrom_false d (i + 1) h
      refine ⟨m, by omega, by omega, fun j h1 h2 => ?_, m4⟩
      by_cases hj : j = i
      · rw [hj]; exact hk
      · exact m3 j (by omega) h2
    · exact ⟨i, Nat.le_refl _, by omega, fun j h1 h2 => by omega, hk⟩
theorem alike_yes {g o : Gau} (h : alike g o = true) : g.n = o.n ∧ ∀ j, j < g.n → key (g.bs j) = key (o.bs j) := by
  unfold alike at h
  by_cases hn : g.n = o.n
  · rw [if_pos hn] at h; exact ⟨hn, fun j hj => alikeFrom_true _ _ h j (Nat.zero_le _) (by omega)⟩
  · rw [if_neg hn] at h; cases h
theorem alike_not {g o : Gau} (h : alike g o = false) : ¬ g.n = o.n ∨ (g.n = o.n ∧ ∃ m, m < g.n ∧ (∀ j, j < m → key (g.bs j) = key (o.bs j)) ∧ ¬ key (g.bs m) = key (o.bs m)) := by
  unfold alike at h
  by_cases hn : g.n = o.n
  · rw [if_pos hn] at h
    obtain ⟨m, _, m2, m3, m4⟩ := alikeFrom_false _ _ h
    exact .inr ⟨hn, m, by omega, fun j hj => m3 j (Nat.zero_le _) hj, m4⟩
  · exact .inl hn
theorem RefG.drawn {w w' : World} {b bc bb : Nat} {g : Gau} (h : RefG w b bc bb g) (hd : Drawn w w') : RefG w' b bc bb g := by
  obtain ⟨n, rfl⟩ := hd; exact h.drewN n

set_option maxRecDepth 100000 in
set_option maxHeartbeats 1000000 in
theorem refmerge36_no {w : World} {b bc bb b' bc' bb' : Nat} {g o : Gau} (h : RefG w b bc bb g) (h' : RefG w b' bc' bb' o) (hw : Wide g) (hw' : Wide o) (n64 : g.n ≤ 64) (n64' : o.n ≤ 64) (hal : alike g o = false) :
    Calls Try.prog 36 #[.pointer (some ⟨b, 0, none⟩), .pointer (some ⟨b', 0, none⟩)] w fun e w' => e = .returned (.int .i64 1) ∧ Drawn w w' := by
  have hcase := alike_not hal
  clear hal
  have HH := Lib.hid h
  have HH' := Lib.hid h'
  have W := Lib.hid hw
  have W' := Lib.hid hw'
  obtain ⟨sl, cap, h1, hsl⟩ := h.c1
  obtain ⟨sl', cap', h1', hsl'⟩ := h'.c1
  have HSL := Lib.hid hsl
  have HSL' := Lib.hid hsl'
  clear h h' hsl hsl' hw hw'
  rcases hcase with hn | ⟨hn, m, hm, heq, hne⟩
  · have hni : ((g.n : Int) != (o.n : Int)) = true := by simp; omega
    clear hn
    go_enter Try.func36, Try.ntmps36
    go_wp2_with fail
    go_quiet (fail)
    go_wp2_with fail
    go_ret
    exact ⟨rfl, _, rfl⟩
  · have hni : ((g.n : Int) != (o.n : Int)) = false := by simp [hn]
    have HN := Lib.hid hn
    have HE := Lib.hid heq
    have HNE := Lib.hid hne
    clear hn heq hne
    go_enter Try.func36, Try.ntmps36
    go_wp2_with fail
    go_quiet (fail)
    go_wp2_with fail
    go_loopw [5] (fun i wr => ∃ k : Nat, k ≤ m ∧ i = .int .i64 k ∧ Drawn w wr) (fun i _ => g.n - (intOf i).toNat)
    case atStart => exact ⟨0, Nat.zero_le _, rfl, _, rfl⟩
    case round =>
      obtain ⟨k, hk, rfl, hd⟩ := hrel
      have hlt : k < g.n := by omega
      have hlo : k < o.n := by rw [← HN.out]; exact hlt
      have e1 := HSL.out k hlt
      have e2 := HSL'.out k hlo
      subst e1
      subst e2
      have hb1 : wr.cell? ⟨bb, k, none⟩ = some (.float .f64 (g.bs k)) := (hd.cell _).trans (HH.out.bnd k hlt)
      have hb2 : wr.cell? ⟨bb', k, none⟩ = some (.float .f64 (o.bs k)) := (hd.cell _).trans (HH'.out.bnd k hlo)
      have hc0 : wr.cell? ⟨b, 0, none⟩ = some (.slice (some ⟨bb, 0, none⟩) g.n cap) := (hd.cell _).trans h1
      have hc1 : wr.cell? ⟨b', 0, none⟩ = some (.slice (some ⟨bb', 0, none⟩) o.n cap') := (hd.cell _).trans h1'
      have SM := Lib.hid (same59 (W.out k hlt) (W'.out k hlo))
      by_cases hkm : k < m
      · have kb : (key (g.bs k) == key (o.bs k)) = true := by have := HE.out k hkm; simpa using this
        generalize (key (g.bs k) == key (o.bs k)) = r at *
        subst kb
        have hkn : (k : Int) < (g.n : Int) := by omega
        go_wp2_with fail
        go_quiet ((go_at_call 59; exact quiet_left (SM.out _)))
        go_wp2_with fail
        go_roundw
        case rel => exact ⟨k + 1, by omega, by go_num, hd.trans ⟨_, rfl⟩⟩
        case measure => simp [intOf]; omega
      · have hkm' : k = m := by omega
        have kb : (key (g.bs k) == key (o.bs k)) = false := by have := HNE.out; rw [hkm']; simpa using this
        generalize (key (g.bs k) == key (o.bs k)) = r at *
        subst kb
        have hkn : (k : Int) < (g.n : Int) := by omega
        clear hkm'
        go_wp2_with fail
        go_quiet ((go_at_call 59; exact quiet_left (SM.out _)))
        go_wp2_with fail
        go_ret
        exact ⟨rfl, hd.trans ⟨_, rfl⟩⟩

theorem merge_zero {g o : Gau} (z : o.count = 0) : merge g o = { g with cs := fun i => g.cs i + o.cs i, nans := g.nans + o.nans } := by
  simp [merge, meanOf, z]
theorem merge_first {g o : Gau} (z : ¬ o.count = 0) (z0 : 0 ≤ o.count) (y : g.count = 0) : merge g o = { g with cs := fun i => g.cs i + o.cs i, nans := g.nans + o.nans, count := o.count, least := o.least, greatest := o.greatest, mean := o.mean } := by
  have : 0 < o.count := by omega
  simp [merge, meanOf, z, y, this, widenL, widenG]
def mergeMean (g o : Gau) : Nat := Fl.canonO ((Ieee.double.sub o.mean g.mean).bind fun d => (Ieee.double.div (Fl.ofI o.count) (Fl.ofI (g.count + o.count))).bind fun q => (Ieee.double.mul d q).bind fun y => Ieee.double.add g.mean y)
theorem merge_both {g o : Gau} (z : ¬ o.count = 0) (z0 : 0 ≤ o.count) (y : ¬ g.count = 0) : merge g o = { g with cs := fun i => g.cs i + o.cs i, nans := g.nans + o.nans, count := g.count + o.count, least := if key o.least < key g.least then o.least else g.least, greatest := if key g.greatest < key o.greatest then o.greatest else g.greatest, mean := mergeMean g o } := by
  have : 0 < o.count := by omega
  simp [merge, meanOf, mergeMean, z, y, this, widenL, widenG]
theorem RefG.csEq {w : World} {b bc bb : Nat} {g : Gau} {f : Nat → Int} (h : RefG w b bc bb g) (hf : ∀ i, i ≤ g.n → g.cs i = f i) : RefG w b bc bb { g with cs := f } :=
  ⟨h.c1, h.c2, h.c3, h.c4, h.c5, h.c6, h.c7, h.fz, h.fc, h.bnd, fun i hi => by show w.cell? _ = some (.int .i64 (f i)); rw [← hf i hi]; exact h.cel i hi, h.lb, h.lc, h.lbb, h.ne, h.neb, h.nec⟩
end Go.Proofs.Ytofjgnlolmaidaa
