/- A gauge's cells and look, told. -/
import Derived.Test.YtofjgnlolmaidaaGg
namespace Go.Proofs.Ytofjgnlolmaidaa
set_option linter.unusedVariables false
open Go.RowKit
attribute [local go_sem] run_store_float

theorem Sane.mono {g : Gau} {B C : Int} (h : Sane g B) (hBC : B ≤ C) : Sane g C :=
  ⟨h.c0, Int.le_trans h.c1 hBC, h.n0, Int.le_trans h.n1 hBC, h.s0, fun i hi => Int.le_trans (h.s1 i hi) hBC, h.le, h.gr, h.fit, h.wide, h.n64⟩

theorem sane0 {n : Nat} {bs : Nat → Nat} (hf : Fit n bs) (hw : ∀ i, i < n → bs i < 18446744073709551616) (hn : n ≤ 64) : Sane (gau0 n bs) 0 :=
  ⟨Int.le_refl _, Int.le_refl _, Int.le_refl _, Int.le_refl _, fun _ _ => Int.le_refl _, fun _ _ => Int.le_refl _, by show (0 : Nat) < _; omega, by show (0 : Nat) < _; omega, hf, hw, hn⟩

theorem put_n (g : Gau) (x : Nat) : (put g x).n = g.n := by unfold put; split <;> rfl
theorem put_bs (g : Gau) (x : Nat) : (put g x).bs = g.bs := by unfold put; split <;> rfl

theorem Sane.put {g : Gau} {B : Int} {x : Nat} (h : Sane g B) (hx : x < 18446744073709551616) : Sane (put g x) (B + 1) := by
  obtain ⟨c0, c1, n0, n1, s0, s1, le, gr, fit, wide, n64⟩ := h
  unfold Proofs.Ytofjgnlolmaidaa.put
  split
  · refine ⟨by simp only; omega, by simp only; omega, n0, by simp only; omega, fun i hi => ?_, fun i hi => ?_, ?_, ?_, fit, wide, n64⟩
    · have e1 : 0 ≤ g.cs i := s0 i hi
      simp only; split <;> omega
    · have e1 : g.cs i ≤ B := s1 i hi
      simp only; split <;> omega
    · simp only [leastOf]; split <;> assumption
    · simp only [greatestOf]; split <;> assumption
  · exact ⟨c0, by show g.count ≤ B + 1; omega, by show 0 ≤ g.nans + 1; omega, by show g.nans + 1 ≤ B + 1; omega, s0, fun i hi => by have e1 : g.cs i ≤ B := s1 i hi; show g.cs i ≤ B + 1; omega, le, gr, fit, wide, n64⟩

/-- Where a list of whole numbers lies that a call has made. -/
structure IntsAt (w : World) (d n : Nat) (f : Nat → Int) : Prop where
  cel : ∀ i, i < n → w.cell? ⟨d, i, none⟩ = some (.int .i64 (f i))
  fz : ∀ o, w.frozen? ⟨d, o, none⟩ = false
  lt : d < w.heap.size

theorem run_append_ints (a : Addr) (n c : Nat) (f : Nat → Int) (w : World) (h0 : 0 < n) (hn : n ≤ 65) (hc : ∀ j, j < n → w.cell? (a.add j) = some (.int .i64 (f j))) :
    (Builtin.append_ #[73, 73] 73 #[.slice none 0 0, .slice (some a) n c]).run Try.prog w =
      .ok (.slice (some ⟨w.heap.size, 0, none⟩) n (grownCap w n 0 2)) ((w.alloc (.cells (((List.range n).map fun j => Value.int .i64 (f j)).toArray ++ Builtin.zeroCells #[.int .i64 0] (grownCap w n 0 2 - n)) 2)).drew) := by
  obtain ⟨i0, hi, hz0, hz1, hz2⟩ := info_parts (show (Try.prog.info? 2).map (fun i => (i.zero, i.size, i.bytes)) = some (some (.int .i64 0), 1, 8) from by kernel_rfl)
  have := run_append_nil (P := Try.prog) w 73 73 2 i0 (.int .i64 0) Try.underlying73 hi hz0 a n c ((List.range n).map fun j => Value.int .i64 (f j)) (by simp [hz1]) (by
    intro j v hv
    simp only [List.getElem?_map, Option.map_eq_some_iff] at hv
    obtain ⟨k, hk, rfl⟩ := hv
    obtain ⟨h1, h2⟩ := List.getElem?_eq_some_iff.1 hk
    simp at h1 h2
    subst h2
    exact hc j h1) h0 (by omega) (by rw [hz2]; omega)
  exact this

/-- The row that an append onto nothing makes. -/
def intRow (n : Nat) (f : Nat → Int) (cap : Nat) : Array Value := ((List.range n).map fun j => Value.int .i64 (f j)).toArray ++ Builtin.zeroCells #[.int .i64 0] (cap - n)

theorem wpList_append_ints {ops : Array Oper} {rest : List Oper} {o : Oper} {a : Act} {w : World} {Q : Exit → Act → World → Prop} (hg : o.guard = none) (x : Operand)
    (hop : o.op = Op.call { callee := Callee.builtin Builtin.append, args := #[.const (.slice none 0 0), x], argTypes := #[73, 73] }) (hty : o.type = 73)
    (ad : Addr) (n c : Nat) (f : Nat → Int) (hx : a.eval x = .slice (some ad) n c) (h0 : 0 < n) (hn : n ≤ 65) (hc : ∀ j, j < n → w.cell? (ad.add j) = some (.int .i64 (f j)))
    (hK : wpList Try.prog ops Q rest (a.put o.dst (.slice (some ⟨w.heap.size, 0, none⟩) n (grownCap w n 0 2))) ((w.alloc (.cells (intRow n f (grownCap w n 0 2)) 2)).drew)) :
    wpList Try.prog ops Q (o :: rest) a w := by
  refine wpList_plain hg fun K hK' => ?_
  have hrun := run_append_ints ad n c f w h0 hn hc
  have hK2 := hK' _ _ hK
  unfold Oper.wp
  simp only [execOp, hop, hty, resolve, invoke, builtin]
  have hx' := hx
  cases x <;> simp only [Act.eval] at hx' <;> simp [Act.eval, hx', hrun, Result.andThen] <;> exact hK2

/-- What an append onto nothing has made. -/
theorem intsAt_made (w : World) (n : Nat) (f : Nat → Int) (cap : Nat) : IntsAt ((w.alloc (.cells (intRow n f cap) 2)).drew) w.heap.size n f := by
  have h : ((w.alloc (.cells (intRow n f cap) 2)).drew).heap[w.heap.size]? = some (.cells (intRow n f cap) 2) := alloc_at w _ _ rfl
  refine ⟨fun i hi => ?_, fun o => ?_, by simp⟩
  · rw [cells_of_block h i, intRow, Array.getElem?_append_left (by simpa using hi)]
    simp [hi]
  · unfold World.frozen?; rw [h]; simp

theorem cells38 {w : World} {b bc bb : Nat} {g : Gau} (h : GaugeAt w b bc bb g) (h64 : g.n ≤ 64) :
    Calls Try.prog 38 #[.pointer (some ⟨b, 0, none⟩)] w fun e w' => ∃ d cap : Nat, e = .returned (.slice (some ⟨d, 0, none⟩) (g.n + 1) cap) ∧ IntsAt w' d (g.n + 1) g.cs ∧ w.heap.size ≤ d ∧ Below w.heap.size w w' := by
  obtain ⟨cap2, h2⟩ := h.c2
  have hc := Lib.hid h.cel
  have T := Lib.hid (there51 h)
  clear h
  go_enter Try.func38, Try.ntmps38
  go_wp2_with (first
    | (go_at_call 51; refine T.out.mono ?_; rintro e w' ⟨rfl, rfl⟩)
    | (at_builtin; refine wpList_append_ints (by rfl) (.tmp 9) (by rfl) (by rfl) ⟨bc, 0, none⟩ (g.n + 1) cap2 g.cs (by rfl) (Nat.succ_pos _) (Nat.succ_le_succ h64) (fun j hj => (by rw [add_lit', Nat.zero_add]; exact hc.out j (Nat.le_of_lt_succ hj))) ?_))
  go_ret
  exact ⟨_, _, rfl, intsAt_made _ _ _ _, Nat.le_refl _, ((Below.refl _ _).alloc (Nat.le_refl _) _).drew⟩

theorem look39 {w : World} {b bc bb : Nat} {g : Gau} (h : GaugeAt w b bc bb g) :
    Calls Try.prog 39 #[.pointer (some ⟨b, 0, none⟩)] w fun e w' => e = .returned (.agg #[.int .i64 g.count, .int .i64 g.nans, .float .f64 g.least, .float .f64 g.greatest, .float .f64 g.mean]) ∧ Below w.heap.size w w' := by
  have hA := fun o => h.chg (Chg.of_below ((Below.refl w.heap.size w).alloc (Nat.le_refl _) o) []) (by simp) (by simp) (by simp)
  have hh := hA (.cells #[.int .i64 0, .int .i64 0, .float .f64 0, .float .f64 0, .float .f64 0] 76)
  have h3 := hh.c3
  have h4 := hh.c4
  have h5 := hh.c5
  have h6 := hh.c6
  have h7 := hh.c7
  have T := Lib.hid (fun o => there51 (hA o))
  clear h hA hh
  go_enter Try.func39, Try.ntmps39
  go_wp2_with (go_at_call 51; refine (T.out _).mono ?_; rintro e w' ⟨rfl, rfl⟩)
  exact bodyPost_ret (v := .agg #[.int .i64 g.count, .int .i64 g.nans, .float .f64 g.least, .float .f64 g.greatest, .float .f64 g.mean]) (by simp [results, Try.results39, go_sem]) rfl ⟨rfl, (Below.refl _ _).alloc (Nat.le_refl _) _⟩
end Go.Proofs.Ytofjgnlolmaidaa
