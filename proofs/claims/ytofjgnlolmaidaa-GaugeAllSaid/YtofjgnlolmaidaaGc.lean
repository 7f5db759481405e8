/- A gauge in memory: what its blocks hold; which blocks a call may turn. -/
import Derived.Test.YtofjgnlolmaidaaGb
import Derived.BigRegion
namespace Go.Proofs.Ytofjgnlolmaidaa
set_option linter.unusedVariables false
open Go.RowKit

/-- Of what was there only the blocks in s may have turned. -/
structure Chg (s : List Nat) (w w' : World) : Prop where
  os : w'.os = w.os
  tape : w'.tape = w.tape
  output : w'.output = w.output
  size : w.heap.size ≤ w'.heap.size
  block : ∀ k, k < w.heap.size → k ∉ s → w'.heap[k]? = w.heap[k]?

theorem Chg.refl (s : List Nat) (w : World) : Chg s w w := ⟨rfl, rfl, rfl, Nat.le_refl _, fun _ _ _ => rfl⟩
theorem Chg.trans {s : List Nat} {a b c : World} (h : Chg s a b) (k : Chg s b c) : Chg s a c :=
  ⟨k.os.trans h.os, k.tape.trans h.tape, k.output.trans h.output, Nat.le_trans h.size k.size, fun i hi hn => (k.block i (Nat.lt_of_lt_of_le hi h.size) hn).trans (h.block i hi hn)⟩
theorem Chg.mono {s t : List Nat} {a b : World} (h : Chg s a b) (hs : ∀ x ∈ s, x ∈ t) : Chg t a b := ⟨h.os, h.tape, h.output, h.size, fun k hk hn => h.block k hk (fun hm => hn (hs k hm))⟩
theorem Chg.drewN {s : List Nat} {a w : World} (h : Chg s a w) (n : Nat) : Chg s a (w.drewN n) := ⟨h.os, h.tape, h.output, h.size, h.block⟩
theorem Chg.drew {s : List Nat} {a w : World} (h : Chg s a w) : Chg s a w.drew := ⟨h.os, h.tape, h.output, h.size, h.block⟩
theorem Chg.alloc {s : List Nat} {a w : World} (h : Chg s a w) (o : Obj) : Chg s a (w.alloc o) :=
  ⟨h.os, h.tape, h.output, Nat.le_trans h.size (by simp), fun i hi hn => (Below.heap_alloc w o i (Nat.lt_of_lt_of_le hi h.size)).trans (h.block i hi hn)⟩
theorem Chg.setCell {s : List Nat} {a w : World} (h : Chg s a w) {p : Addr} (hp : p.block ∈ s ∨ a.heap.size ≤ p.block) (u : Value) : Chg s a (w.setCell p u) :=
  ⟨h.os, h.tape, h.output, by simpa [World.setCell] using h.size, fun i hi hn => (Below.heap_setCell w p u i (by
    rintro rfl
    rcases hp with hp | hp
    · exact hn hp
    · omega)).trans (h.block i hi hn)⟩
theorem Chg.of_below {a w : World} (h : Below a.heap.size a w) (s : List Nat) : Chg s a w := ⟨h.os, h.tape, h.output, h.size, fun k hk _ => h.block k hk⟩
/-- Blocks that are new since 'a' are no concern of it. -/
theorem Chg.new {s t : List Nat} {a b c : World} (h : Chg s a b) (k : Chg t b c) (ht : ∀ x ∈ t, x ∈ s ∨ a.heap.size ≤ x) : Chg s a c :=
  ⟨k.os.trans h.os, k.tape.trans h.tape, k.output.trans h.output, Nat.le_trans h.size k.size, fun i hi hn => (k.block i (Nat.lt_of_lt_of_le hi h.size) (fun hm => by
    rcases ht i hm with h1 | h1
    · exact hn h1
    · omega)).trans (h.block i hi hn)⟩
theorem Chg.below {s : List Nat} {a w : World} (h : Chg s a w) {B : Nat} (hB : B ≤ a.heap.size) (hs : ∀ x ∈ s, B ≤ x) : Below B a w :=
  ⟨h.os, h.tape, h.output, h.size, fun k hk => h.block k (by omega) (fun hm => by have := hs k hm; omega)⟩
theorem Chg.cell {s : List Nat} {a w : World} (h : Chg s a w) {p : Addr} (hp : p.block < a.heap.size) (hn : p.block ∉ s) : w.cell? p = a.cell? p := World.cell?_of_block (w := a) (a := p) (h.block _ hp hn)
theorem Chg.frozen {s : List Nat} {a w : World} (h : Chg s a w) {p : Addr} (hp : p.block < a.heap.size) (hn : p.block ∉ s) : w.frozen? p = a.frozen? p := World.frozen?_of_block (w := a) (a := p) (h.block _ hp hn)

/-- A gauge's data. -/
structure Gau where
  n : Nat
  bs : Nat → Nat
  cs : Nat → Int
  count : Int
  nans : Int
  least : Nat
  greatest : Nat
  mean : Nat

/-- What a gauge's blocks hold: b the struct, bc the cells, bb the bounds. -/
structure GaugeAt (w : World) (b bc bb : Nat) (g : Gau) : Prop where
  c0 : w.cell? ⟨b, 0, none⟩ = some (.bool true)
  c1 : ∃ (sl : Option Addr) (cap : Nat), w.cell? ⟨b, 1, none⟩ = some (.slice sl g.n cap) ∧ ∀ i, i < g.n → sl = some ⟨bb, 0, none⟩
  c2 : ∃ cap : Nat, w.cell? ⟨b, 2, none⟩ = some (.slice (some ⟨bc, 0, none⟩) (g.n + 1) cap)
  c3 : w.cell? ⟨b, 3, none⟩ = some (.int .i64 g.count)
  c4 : w.cell? ⟨b, 4, none⟩ = some (.int .i64 g.nans)
  c5 : w.cell? ⟨b, 5, none⟩ = some (.float .f64 g.least)
  c6 : w.cell? ⟨b, 6, none⟩ = some (.float .f64 g.greatest)
  c7 : w.cell? ⟨b, 7, none⟩ = some (.float .f64 g.mean)
  fz : ∀ o, w.frozen? ⟨b, o, none⟩ = false
  fc : ∀ o, w.frozen? ⟨bc, o, none⟩ = false
  bnd : ∀ i, i < g.n → w.cell? ⟨bb, i, none⟩ = some (.float .f64 (g.bs i))
  cel : ∀ i, i ≤ g.n → w.cell? ⟨bc, i, none⟩ = some (.int .i64 (g.cs i))
  lb : b < w.heap.size
  lc : bc < w.heap.size
  lbb : bb < w.heap.size
  ne : b ≠ bc
  neb : bb ≠ b
  nec : 0 < g.n → bb ≠ bc

/-- The bounds rise, none a NaN. -/
structure Fit (n : Nat) (bs : Nat → Nat) : Prop where
  num : ∀ j, j < n → Fl.num (bs j)
  up : ∀ j, 0 < j → j < n → key (bs (j - 1)) < key (bs j)

theorem GaugeAt.chg {w w' : World} {b bc bb : Nat} {g : Gau} {s : List Nat} (h : GaugeAt w b bc bb g) (hc : Chg s w w') (hb : b ∉ s) (hbc : bc ∉ s) (hbb : bb ∉ s) : GaugeAt w' b bc bb g := by
  have q : ∀ o, w'.cell? ⟨b, o, none⟩ = w.cell? ⟨b, o, none⟩ := fun o => hc.cell (p := ⟨b, o, none⟩) h.lb hb
  obtain ⟨sl, cap, e1, e1'⟩ := h.c1
  obtain ⟨cap2, e2⟩ := h.c2
  exact ⟨(q 0).trans h.c0, ⟨sl, cap, (q 1).trans e1, e1'⟩, ⟨cap2, (q 2).trans e2⟩, (q 3).trans h.c3, (q 4).trans h.c4, (q 5).trans h.c5, (q 6).trans h.c6, (q 7).trans h.c7,
    fun o => (hc.frozen (p := ⟨b, o, none⟩) h.lb hb).trans (h.fz o), fun o => (hc.frozen (p := ⟨bc, o, none⟩) h.lc hbc).trans (h.fc o),
    fun i hi => (hc.cell (p := ⟨bb, i, none⟩) h.lbb hbb).trans (h.bnd i hi), fun i hi => (hc.cell (p := ⟨bc, i, none⟩) h.lc hbc).trans (h.cel i hi),
    Nat.lt_of_lt_of_le h.lb hc.size, Nat.lt_of_lt_of_le h.lc hc.size, Nat.lt_of_lt_of_le h.lbb hc.size, h.ne, h.neb, h.nec⟩

theorem GaugeAt.drewN {w : World} {b bc bb : Nat} {g : Gau} (h : GaugeAt w b bc bb g) (n : Nat) : GaugeAt (w.drewN n) b bc bb g := h.chg ((Chg.refl [] w).drewN n) (by simp) (by simp) (by simp)

theorem run_append_floats (a : Addr) (n c : Nat) (f : Nat → Nat) (w : World) (h0 : 0 < n) (hn : n ≤ 64) (hc : ∀ j, j < n → w.cell? (a.add j) = some (.float .f64 (f j))) :
    (Builtin.append_ #[56, 56] 56 #[.slice none 0 0, .slice (some a) n c]).run Try.prog w =
      .ok (.slice (some ⟨w.heap.size, 0, none⟩) n (grownCap w n 0 25)) ((w.alloc (.cells (((List.range n).map fun j => Value.float .f64 (f j)).toArray ++ Builtin.zeroCells #[.float .f64 0] (grownCap w n 0 25 - n)) 25)).drew) := by
  obtain ⟨i0, hi, hz0, hz1, hz2⟩ := info_parts (show (Try.prog.info? 25).map (fun i => (i.zero, i.size, i.bytes)) = some (some (.float .f64 0), 1, 8) from by kernel_rfl)
  have := run_append_nil (P := Try.prog) w 56 56 25 i0 (.float .f64 0) Try.underlying56 hi hz0 a n c ((List.range n).map fun j => Value.float .f64 (f j)) (by simp [hz1]) (by
    intro j v hv
    simp only [List.getElem?_map, Option.map_eq_some_iff] at hv
    obtain ⟨k, hk, rfl⟩ := hv
    obtain ⟨h1, h2⟩ := List.getElem?_eq_some_iff.1 hk
    simp at h1 h2
    subst h2
    exact hc j h1) h0 (by omega) (by rw [hz2]; omega)
  exact this

theorem run_make_cells (n : Nat) (hn : n ≤ 65) (w : World) : (Instr.makeSlice 73 (.int .i64 (n : Int)) (.int .i64 (n : Int))).run Try.prog w =
    .ok (.slice (some ⟨w.heap.size, 0, none⟩) n n) (w.alloc (.cells (madeCells #[.int .i64 0] n) 2)) := by
  obtain ⟨i0, hi, hz0, hz1, hz2⟩ := info_parts (show (Try.prog.info? 2).map (fun i => (i.zero, i.size, i.bytes)) = some (some (.int .i64 0), 1, 8) from by kernel_rfl)
  have := run_make (P := Try.prog) w 73 2 i0 (.int .i64 0) Try.underlying73 hi hz0 .i64 .i64 n n (by omega) (by omega) (by rw [hz2]; omega) (by omega)
  rw [hz1, Nat.mul_one, Int.toNat_natCast] at this
  exact this
end Go.Proofs.Ytofjgnlolmaidaa
