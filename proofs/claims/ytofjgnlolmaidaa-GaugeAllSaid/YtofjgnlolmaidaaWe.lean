/- Walks through the package pace and what it calls: the contract of each function, of cells. -/
import Derived.Test.YtofjgnlolmaidaaWd
namespace Go.Proofs.Ytofjgnlolmaidaa
set_option linter.unusedVariables false
open Go.RowKit
attribute [local go_sem] run_store_float

theorem good_one : Good 4607182418800017408 := ⟨Fl.one_fin, by rw [Fl.one_val]; exact Int.le_of_lt Fl.U_pos, by rw [Fl.one_val]; have := Fl.U_pos; omega⟩
theorem below_size {B : Nat} {w w' : World} (h : Below B w w') : w.heap.size ≤ w'.heap.size := h.size
theorem grown_below {w w' : World} {b B : Nat} (h : w.grownBy w' (some b)) (hB : B ≤ b) (hs : B ≤ w.heap.size) : Below B w w' :=
  ⟨h.os, h.tape, h.output, h.size, fun k hk => h.block k (by omega) (fun e => by injection e with e; omega)⟩

theorem grown_cell {w w' : World} {row : Option Nat} (h : w.grownBy w' row) {p : Addr} (hp : p.block < w.heap.size) (hr : some p.block ≠ row) : w'.cell? p = w.cell? p :=
  World.cell?_of_block (w := w) (a := p) (h.block _ hp hr)

theorem cell_new (w : World) (c : Array Value) (t : TypeId) (n i : Nat) (hn : n = w.heap.size) : (w.alloc (.cells c t)).cell? ⟨n, i, none⟩ = c[i]? := World.cell?_alloc_at _ _ _ _ hn
theorem cell_old (w : World) (o : Obj) (n i : Nat) (hn : n < w.heap.size) : (w.alloc o).cell? ⟨n, i, none⟩ = w.cell? ⟨n, i, none⟩ := World.cell?_alloc_past _ _ _ hn

theorem half_may : May 8 1000 4602678819172646912 4602678819172646912 := ⟨by decide, by decide, by decide, by decide, by decide +kernel, by decide +kernel, by decide +kernel, by decide +kernel⟩
theorem may_alpha {most bytes : Int} {linger alpha : Nat} (h : May most bytes linger alpha) : Alpha alpha := by
  have a1 := h.a1
  have a2 := h.a2
  have hn : Fl.num alpha := by
    by_cases hn : Fl.num alpha
    · exact hn
    · rw [Fl.ord_nan_l hn] at a1; cases a1
  rw [Fl.gt_num hn Fl.zero_num, Fl.zero_val] at a1
  rw [Fl.le_num hn Fl.one_fin.num, Fl.one_val] at a2
  have a1 := of_decide_eq_true a1
  have a2 := of_decide_eq_true a2
  have := Fl.U_pos
  exact ⟨Fl.fin_of_val hn (k := 1) (by decide) (by show Fl.val alpha ≤ 1 * Fl.U; omega) (by show -(1 * Fl.U) ≤ Fl.val alpha; omega), a1, a2⟩

theorem begun_seen : seenS 8 4602678819172646912 4607182418800017408 8 = 4616752568008179712 := by decide +kernel
theorem begun_want : Fl.wantN 8 4616752568008179712 = 5 := by decide +kernel
theorem begun_go0 : planGo 8 1000 4602678819172646912 4607182418800017408 0 0 0 = false := by decide +kernel
theorem begun_sub : Ieee.double.sub 4602678819172646912 (age0 0) = some 4602678819172646912 := by decide +kernel
theorem begun_wait : planWait 4602678819172646912 0 = 4602678819172646912 := by decide +kernel
theorem begun_go1 : planGo 8 1000 4602678819172646912 4607182418800017408 1 10 0 = true := by decide +kernel
theorem begun_rg : Fl.rg 4602678819172646912 = 4602678819172646912 := by decide
theorem begun_eq : (Fl.ord 4602678819172646912 4602678819172646912 == some .eq) = true := by decide +kernel
theorem begun_eq0 : (Fl.ord 0 0 == some .eq) = true := by decide +kernel

set_option maxHeartbeats 1000000 in
theorem begun_any (w : World) : Calls Try.prog 11 #[] w fun e w' => e = .returned (.bool true) ∧ Below w.heap.size w w' := by
  have g4 : Good 4616752568008179712 := by rw [← begun_seen]; exact seenS_good good_one (may_alpha half_may) (by decide)
  have q1 := begun_eq
  have q2 := begun_eq0
  go_enter Try.func11, Try.ntmps11
  go_wp2_with (go_at_call 13; refine (new_ok half_may (by decide) _).mono ?_; rintro e w1 ⟨rfl, hp1, hs1, hb1⟩; rw [begun_rg] at hp1)
  have l1 : w.heap.size + 1 < w1.heap.size := by omega
  clear hs1
  refine (plan_wait 0 0 0 _ hp1 l1 good_one (by decide) (by decide) begun_go0 begun_sub).mono ?_
  rintro e w2 ⟨rfl, hb2⟩
  rw [begun_wait]
  have hp2 := hp1.below hb2 l1
  have l2 := hb2.size
  go_wp2_with fail
  refine (plan_go 1 10 0 hp2 (by omega) good_one (by decide) (by decide) begun_go1).mono ?_
  rintro e w3 ⟨rfl, hb3⟩
  have hp3 := hp2.below hb3 (by omega)
  have l3 := hb3.size
  have hb := hb1.trans ((hb2.mono hb1.size).trans (hb3.mono (by omega)))
  clear hb1 hb2 hb3 hp1 hp2
  go_wp2_with fail
  refine (seen_any 8 (hp3.below (((Below.refl _ _).alloc (Nat.le_refl _) _).alloc (by simp) _) (by omega)) good_one (may_alpha half_may) (by decide) (by decide)).mono ?_
  rintro e w4 ⟨rfl, hp4, hg4⟩
  rw [begun_seen] at hp4
  have k0 : w4.cell? ⟨w3.heap.size, 0, none⟩ = some (.bool false) := (grown_cell hg4 (by simp; omega) (by simp; omega)).trans ((cell_old _ _ _ _ (by simp)).trans (cell_new _ _ _ _ _ rfl))
  have k1 : w4.cell? ⟨w3.heap.size, 1, none⟩ = some (.float .f64 4602678819172646912) := (grown_cell hg4 (by simp; omega) (by simp; omega)).trans ((cell_old _ _ _ _ (by simp)).trans (cell_new _ _ _ _ _ rfl))
  have k2 : w4.cell? ⟨w3.heap.size + 1, 0, none⟩ = some (.bool true) := (grown_cell hg4 (by simp) (by simp; omega)).trans (cell_new _ _ _ _ _ (by simp))
  have k3 : w4.cell? ⟨w3.heap.size + 1, 1, none⟩ = some (.float .f64 0) := (grown_cell hg4 (by simp) (by simp; omega)).trans (cell_new _ _ _ _ _ (by simp))
  have hB : Below w.heap.size w w4 := hb.trans ((((Below.refl _ _).alloc (by omega) _).alloc (by simp; omega) _).trans (grown_below hg4 (by omega) (by simp; omega)))
  clear hg4
  have bw := begun_want
  go_wp2_with (go_at_call 16; refine (want_any hp4 g4 (by decide) (by decide)).mono ?_; rintro e w' ⟨rfl, rfl⟩; rw [bw])
  go_ret
  exact ⟨rfl, hB⟩
end Go.Proofs.Ytofjgnlolmaidaa
