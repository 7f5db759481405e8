/- Plain law of GaugeCells. -/
import Derived.Test.YtofjgnlolmaidaaGx
namespace Go.Proofs.Ytofjgnlolmaidaa
set_option linter.unusedVariables false
open Go.RowKit

theorem alikeFrom_same (g o : Gau) (h : g.bs = o.bs) : ∀ d i, alikeFrom g o d i = true := by
  intro d
  induction d with
  | zero => intro i; rfl
  | succ d ih => intro i; simp only [alikeFrom]; rw [h, if_pos rfl]; exact ih (i + 1)
theorem alike_same {g o : Gau} (hn : g.n = o.n) (h : g.bs = o.bs) : alike g o = true := by
  unfold alike; rw [if_pos hn]; exact alikeFrom_same g o h _ _

theorem rev_map (f : Nat → Nat) (k : Nat) : (List.range k).map (fun t => f (k - 1 - t)) = ((List.range k).map f).reverse := by
  refine List.ext_getElem (by simp) fun i h1 h2 => ?_
  simp

theorem Sane.merge {g o : Gau} {B C : Int} (h : Sane g B) (k : Sane o C) (hn : g.n = o.n) : Sane (merge g o) (B + C) := by
  obtain ⟨c0, c1, n0, n1, s0, s1, le, gr, fit, wide, n64⟩ := h
  obtain ⟨k0, k1, m0, m1, t0, t1, le', gr', _, _, _⟩ := k
  refine ⟨by show 0 ≤ g.count + o.count; omega, by show g.count + o.count ≤ B + C; omega, by show 0 ≤ g.nans + o.nans; omega, by show g.nans + o.nans ≤ B + C; omega, fun i hi => ?_, fun i hi => ?_, ?_, ?_, fit, wide, n64⟩
  · have a := s0 i hi
    have b := t0 i (by rw [← hn]; exact hi)
    show 0 ≤ g.cs i + o.cs i; omega
  · have a := s1 i hi
    have b := t1 i (by rw [← hn]; exact hi)
    show g.cs i + o.cs i ≤ B + C; omega
  · show (if 0 < o.count then widenL g o.least else g.least) < _
    unfold widenL; split
    · split <;> assumption
    · exact le
  · show (if 0 < o.count then widenG g o.greatest else g.greatest) < _
    unfold widenG; split
    · split <;> assumption
    · exact gr

theorem cells_law {n : Nat} {bs : Nat → Nat} {G0 : Gau} (O0 : Told n bs G0 []) (x y : Nat → Nat) (hx : ∀ i, x i < 18446744073709551616) (hy : ∀ i, y i < 18446744073709551616) (k k2 : Nat) (GX GY A : Gau)
    (eX : GX = pn G0 x k) (eY : GY = pn G0 y k2) (eA : A = pn (pn G0 (fun t => y (k2 - 1 - t)) k2) (fun t => x (k - 1 - t)) k) :
    alike GX GY = true ∧ GX.n = n ∧ GY.n = n ∧ A.n = n ∧ (merge GX GY).cs = A.cs ∧ (merge GX GY).count = A.count ∧ (merge GX GY).nans = A.nans ∧ (merge GX GY).least = A.least ∧ (merge GX GY).greatest = A.greatest ∧
      (∃ L, Told n bs (merge GX GY) L) ∧ (merge GX GY).count + (merge GX GY).nans = k + k2 := by
  have TX := pn_told x O0 k
  have TY := pn_told y O0 k2
  have TA := pn_told (fun t => x (k - 1 - t)) (pn_told (fun t => y (k2 - 1 - t)) O0 k2) k
  rw [← eX] at TX
  rw [← eY] at TY
  rw [← eA, rev_map x k, rev_map y k2, List.reverse_reverse, List.reverse_reverse] at TA
  rw [List.append_nil] at TX TY TA
  have TM := TX.merge TY
  have hp : (((List.range k).map x).reverse ++ ((List.range k2).map y).reverse).Perm ((List.range k).map x ++ (List.range k2).map y) := (List.reverse_perm _).append (List.reverse_perm _)
  obtain ⟨e1, e2, e3, e4, e5⟩ := TM.perm TA hp (fun z hz => by
    simp only [List.mem_append, List.mem_reverse, List.mem_map] at hz
    rcases hz with ⟨i, _, rfl⟩ | ⟨i, _, rfl⟩
    · exact hx i
    · exact hy i)
  refine ⟨alike_same (TX.hn.trans TY.hn.symm) (TX.hbs.trans TY.hbs.symm), TX.hn, TY.hn, TA.hn, e1, e2, e3, e4, e5, ⟨_, TM⟩, ?_⟩
  rw [told_len TM]; simp
end Go.Proofs.Ytofjgnlolmaidaa
