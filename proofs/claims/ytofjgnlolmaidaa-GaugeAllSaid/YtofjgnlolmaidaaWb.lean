/- Walks through the package pace and what it calls: the contract of each function, of cells. -/
import Derived.Test.YtofjgnlolmaidaaWa
import Derived.Deep.RegionWith
namespace Go.Proofs.Ytofjgnlolmaidaa
set_option linter.unusedVariables false
open Go.RowKit

theorem quiet_left {P : Program} {f : FuncId} {args : Array Value} {w : World} {n : Nat} {v : Value}
    (h : Calls P f args (w.drewN n) fun e w' => e = .returned v ∧ w.drewN n = w') : Calls P f args (w.drewN n) fun e w'' => e = .returned v ∧ ∃ m, w'' = w.drewN m :=
  h.mono fun _ _ ⟨he, hm⟩ => ⟨he, n, hm.symm⟩

theorem only_drewN {a w : World} {row : Option Nat} (h : a.grownBy w row) (n : Nat) : a.grownBy (w.drewN n) row := ⟨h.os, h.tape, h.output, h.size, h.block⟩
theorem only_refl (a : World) (row : Option Nat) : a.grownBy a row := ⟨rfl, rfl, rfl, Nat.le_refl _, fun _ _ _ => rfl⟩
theorem only_alloc {a w : World} {row : Option Nat} (h : a.grownBy w row) (o : Obj) : a.grownBy (w.alloc o) row :=
  ⟨h.os, h.tape, h.output, Nat.le_trans h.size (by simp), fun i hi hne => (Below.heap_alloc w o i (Nat.lt_of_lt_of_le hi h.size)).trans (h.block i hi hne)⟩
theorem only_setCell {a w : World} {g : Nat} (h : a.grownBy w (some g)) {p : Addr} (hp : p.block = g ∨ a.heap.size ≤ p.block) (u : Value) : a.grownBy (w.setCell p u) (some g) :=
  ⟨h.os, h.tape, h.output, by simpa [World.setCell] using h.size, fun i hi hne => (Below.heap_setCell w p u i (by
    rintro rfl
    rcases hp with hp | hp
    · exact hne (by rw [hp])
    · omega)).trans (h.block i hi hne)⟩
theorem only_of_below {a w : World} (h : Below a.heap.size a w) (row : Option Nat) : a.grownBy w row := ⟨h.os, h.tape, h.output, h.size, fun i hi _ => h.block i hi⟩

/-- What a smoothing step towards n gives. -/
def step (alpha s : Nat) (n : Int) : Nat := Fl.canonO ((Ieee.double.sub (Fl.ofI n) s).bind fun d => (Ieee.double.mul alpha d).bind fun y => Ieee.double.add s y)
def seenS (most : Int) (alpha s : Nat) (n : Int) : Nat := if 1 ≤ n ∧ n ≤ most then step alpha s n else s

/-- The params' Alpha is fit. -/
structure Alpha (a : Nat) : Prop where
  f : Fl.fin a
  lo : 0 < Fl.val a
  hi : Fl.val a ≤ Fl.U

theorem Alpha.gt {a : Nat} (h : Alpha a) : (Fl.ord a 0 == some .gt) = true := by
  rw [Fl.gt_num h.f.num Fl.zero_num, Fl.zero_val]; exact decide_eq_true h.lo
theorem Alpha.le {a : Nat} (h : Alpha a) : (Fl.ord a 4607182418800017408 == some .lt || Fl.ord a 4607182418800017408 == some .eq) = true := by
  rw [Fl.le_num h.f.num Fl.one_fin.num, Fl.one_val]; exact decide_eq_true h.hi

theorem step_spec {s a : Nat} {n : Int} (g : Good s) (ha : Alpha a) (n1 : 1 ≤ n) (n2 : n ≤ 256) :
    ∃ d y, Ieee.double.sub (Fl.ofI n) s = some d ∧ Ieee.double.mul a d = some y ∧ Ieee.double.add s y = some (step a s n) ∧ Good (step a s n) ∧ Fl.canon (step a s n) = step a s n := by
  obtain ⟨d, y, r, e1, e2, e3, _, _, f, l, h⟩ := Fl.smooth_keeps g.f g.lo g.hi ha.f (Int.le_of_lt ha.lo) ha.hi n1 n2
  have e : step a s n = r := by unfold step; rw [e1, Option.bind_some, e2, Option.bind_some, e3]; rfl
  rw [e]
  exact ⟨d, y, e1, e2, e3, ⟨f, l, h⟩, if_pos f.num⟩

theorem seenS_good {most : Int} {s a : Nat} {n : Int} (g : Good s) (ha : Alpha a) (m : most ≤ 256) : Good (seenS most a s n) := by
  unfold seenS; split
  · rename_i h; obtain ⟨_, _, _, _, _, g', _⟩ := step_spec g ha h.1 (by omega); exact g'
  · exact g

theorem PaceAt.drewN {w : World} {b : Nat} {most bytes : Int} {linger alpha want : Nat} (h : PaceAt w b most bytes linger alpha want) (n : Nat) : PaceAt (w.drewN n) b most bytes linger alpha want :=
  ⟨h.c0, h.c1, h.c2, h.c3, h.c4, h.c5, h.fz⟩

theorem cell_other {w : World} {a b : Addr} (v : Value) (h : a ≠ b) : (w.setCell a v).cell? b = w.cell? b := by
  first | exact World.cell?_setCell_other _ _ _ h | exact World.cell?_setCell_other _ _ h | exact World.cell?_setCell_other _ _ _ _ h
theorem cell_same {w : World} {a : Addr} {u : Value} (v : Value) (h : w.cell? a = some u) : (w.setCell a v).cell? a = some v := by
  first | exact World.cell?_setCell_same _ _ _ h | exact World.cell?_setCell_same _ _ h | exact World.cell?_setCell_same _ _ _ _ h

theorem PaceAt.set {w : World} {b : Nat} {most bytes : Int} {linger alpha want : Nat} (h : PaceAt w b most bytes linger alpha want) (r : Nat) : PaceAt (w.setCell ⟨b, 5, none⟩ (.float .f64 r)) b most bytes linger alpha r :=
  ⟨by rw [cell_other _ (by simp)]; exact h.c0, by rw [cell_other _ (by simp)]; exact h.c1, by rw [cell_other _ (by simp)]; exact h.c2,
   by rw [cell_other _ (by simp)]; exact h.c3, by rw [cell_other _ (by simp)]; exact h.c4, cell_same _ h.c5, by simpa using h.fz⟩

theorem run_store_float (P : Program) (w : World) (a : Addr) (m : Mode) (k : FloatKind) (b : Nat) : (store a (.float k b) m).run P w = stored P w a (.float k b) m := run_store P w a _ m rfl
attribute [local go_sem] run_store_float

set_option maxHeartbeats 400000 in
theorem seen_any {w : World} {b : Nat} {most bytes : Int} {linger alpha want : Nat} (n : Int) (h : PaceAt w b most bytes linger alpha want) (g : Good want) (ha : Alpha alpha) (m1 : 1 ≤ most) (m2 : most ≤ 256) :
    Calls Try.prog 15 #[.pointer (some ⟨b, 0, none⟩), .int .i64 n] w fun e w' => e = .returned (.tuple #[]) ∧ PaceAt w' b most bytes linger alpha (seenS most alpha want n) ∧ w.grownBy w' (some b) := by
  have h1 := h.c1
  have h4 := h.c4
  have h5 := h.c5
  have hf := h.fz
  by_cases c : 1 ≤ n ∧ n ≤ most
  · obtain ⟨c1, c2⟩ := c
    obtain ⟨d, y, e1, e2, e3, _, e4⟩ := step_spec g ha c1 (by omega : n ≤ 256)
    have H : Hid (seenS most alpha want n = step alpha want n) := Lib.hid (by unfold seenS; rw [if_pos ⟨c1, c2⟩])
    have S := fun w => smooth_ok ha.gt ha.le (Fl.ofI_fin (n := n) (by omega)).num g.f.num e1 e2 e3 w
    rw [e4] at S
    rw [← Fl.ofI_floatOfInt] at S
    clear e1 e2 e3 e4
    have hn1 : ¬ n < 1 := by omega
    have hn2 : ¬ most < n := by omega
    go_enter Try.func15, Try.ntmps15
    go_wp2_with (go_at_call 43; refine (there_any h).mono ?_; rintro e w' ⟨rfl, rfl⟩)
    go_quiet ((go_at_call 25; exact quiet_left (S _)))
    go_wp2
    go_end0
    refine ⟨rfl, ?_, ?_⟩
    · rw [H.out]; exact (h.drewN _).set _
    · exact only_setCell (only_drewN (only_refl _ _) _) (.inl rfl) _
  · have H : Hid (seenS most alpha want n = want) := Lib.hid (by unfold seenS; rw [if_neg c])
    by_cases c1 : n < 1
    · clear c
      go_enter Try.func15, Try.ntmps15
      go_wp2_with (go_at_call 43; refine (there_any h).mono ?_; rintro e w' ⟨rfl, rfl⟩)
      refine bodyPost_ret (results_none rfl _ _ _) rfl ⟨rfl, ?_, only_refl _ _⟩
      rw [H.out]; exact h
    · have c2 : most < n := by omega
      clear c
      go_enter Try.func15, Try.ntmps15
      go_wp2_with (go_at_call 43; refine (there_any h).mono ?_; rintro e w' ⟨rfl, rfl⟩)
      refine bodyPost_ret (results_none rfl _ _ _) rfl ⟨rfl, ?_, only_refl _ _⟩
      rw [H.out]; exact h

end Go.Proofs.Ytofjgnlolmaidaa
