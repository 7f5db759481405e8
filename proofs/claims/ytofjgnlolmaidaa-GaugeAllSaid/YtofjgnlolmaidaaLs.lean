/- Arguments opened: slices of integers, their cells as facts for a walk. -/
import Derived.Test.YtofjgnlolmaidaaLw
import Derived.Lib.SmallJoins
namespace Go.Proofs.Ytofjgnlolmaidaa
set_option linter.unusedVariables false
open Go.ChangeShapes Go.WideShapes Go.ChangeAt Go.RowKit

theorem addr_of_cell {w : World} {a : Addr} {v : Value} (h : w.cell? a = some v) : a = ⟨a.block, a.off, none⟩ ∧ a.block < w.heap.size := by
  unfold World.cell? at h
  split at h
  · rename_i c _ _ hc
    split at h
    · cases h
    · rename_i hs
      refine ⟨?_, ?_⟩
      · cases a with
        | mk b o s => cases s <;> simp at hs ⊢
      · rcases Nat.lt_or_ge a.block w.heap.size with h1 | h1
        · exact h1
        · rw [Array.getElem?_eq_none h1] at hc; cases hc
  · cases h

theorem slice_cells {w : World} {a : Addr} {n : Nat} {f : Nat → Value} (hcell : ∀ i, i < n → w.cell? (a.add i) = some (f i)) :
    ∀ i, i < n → ∃ b off, some a = some (⟨b, off, none⟩ : Addr) ∧ b < w.heap.size ∧ w.cell? ⟨b, off + i, none⟩ = some (f i) := by
  intro i hi
  have h0 := hcell 0 (by omega)
  rw [show a.add 0 = a from rfl] at h0
  obtain ⟨e, hb⟩ := addr_of_cell h0
  refine ⟨a.block, a.off, by rw [← e], hb, ?_⟩
  have h1 := hcell i hi
  have ea : a.add i = ⟨a.block, a.off + i, none⟩ := by
    unfold Addr.add
    by_cases hz : i = 0
    · subst hz; rw [if_pos rfl, Nat.add_zero]; exact e
    · rw [if_neg hz]
  rw [ea] at h1; exact h1

set_option maxRecDepth 100000 in
theorem open_int_slice {H : Type} {enc : TypeId × Value → H} {w : World} {r : Reach} {b0 : Nat} {t e : TypeId} {k : IntKind} {v : Value} {d : DataW H} {ps : List MemPlace} {spare : Nat → Bool}
    (ht : Try.prog.underlying t = some (.slice e)) (he : Try.prog.underlying e = some (.int k)) (hc : Try.prog.cellsOf e = 1)
    (hv : Value.okWide Try.prog w r b0 t v) (h : DataW.Trod enc Try.prog w 0 spare true t v d ps) :
    ∃ (sl : Option Addr) (len cap : Nat) (zs : Nat → Int), v = .slice sl len cap ∧ (len : Int) ≤ 9223372036854775807 ∧ (∀ i, (Lit.int k (zs i)).wf = true) ∧ (sl = none → len = 0 ∧ cap = 0) ∧
      ∀ i, i < len → ∃ b off, sl = some ⟨b, off, none⟩ ∧ b < w.heap.size ∧ w.cell? ⟨b, off + i, none⟩ = some (.int k (zs i)) := by
  obtain ⟨a, len, cap, rfl⟩ := okWide_slice ht hv
  obtain ⟨fuel, hf⟩ := h
  have w0 : (Lit.int k 0).wf = true := by cases k <;> simp [Lit.wf, IntKind.min, IntKind.max, IntKind.bits, IntKind.signed]
  rcases open_ints ht he hc hf with ⟨hcs, hx⟩ | ⟨a', len', cap', zs, hcs, _, hl, hm, hz, hx, hcell, hwz⟩
  · simp only [Value.cells, List.cons.injEq, and_true] at hcs
    injection hcs with e1 e2 e3
    subst e1; subst e2; subst e3
    exact ⟨none, 0, 0, fun _ => 0, rfl, by omega, fun _ => w0, fun _ => ⟨rfl, rfl⟩, fun i hi => absurd hi (Nat.not_lt_zero _)⟩
  · simp only [Value.cells, List.cons.injEq, and_true] at hcs
    injection hcs with e1 e2 e3
    subst e1; subst e2; subst e3
    have hlz : len ≤ zs.length := by rw [hz]; split <;> omega
    refine ⟨some a', len, cap, fun i => zs.getD i 0, rfl, by unfold maxLen at hm; omega, fun i => ?_, nofun, fun i hi => slice_cells (n := zs.length) (f := fun i => .int k (zs.getD i 0)) hcell i (by omega)⟩
    by_cases hi : i < zs.length
    · have : zs.getD i 0 = zs[i] := by simp [List.getD, List.getElem?_eq_getElem hi]
      simp only [this]; exact hwz _ (List.getElem_mem hi)
    · have : zs.getD i 0 = 0 := by simp [List.getD, List.getElem?_eq_none (by omega : zs.length ≤ i)]
      simp only [this]; exact w0

theorem wf_i64 {n : Int} (h : (Lit.int .i64 n).wf = true) : -9223372036854775808 ≤ n ∧ n ≤ 9223372036854775807 := by
  simp [Lit.wf, IntKind.min, IntKind.max, IntKind.bits, IntKind.signed] at h; omega
theorem wf_u64 {n : Int} (h : (Lit.int .u64 n).wf = true) : 0 ≤ n ∧ n < 18446744073709551616 := by
  simp [Lit.wf, IntKind.min, IntKind.max, IntKind.bits, IntKind.signed] at h; omega

end Go.Proofs.Ytofjgnlolmaidaa
