/- PROVED: for every params, every batches seen, every plan and every greater plan, PaceRises answers true: what goes, goes with more records, more bytes, a greater age; what waits, waits a time above 0 and at most Linger; what is wanted is 1 to Most. Conditions: none. -/
import Derived.Test.YtofjgnlolmaidaaWi
import Derived.Test.YtofjgnlolmaidaaLs
namespace Go.Proofs.Ytofjgnlolmaidaa
set_option linter.unusedVariables false
open Go.ChangeShapes Go.WideShapes Go.ChangeAt Go.RowKit Go.Joins

theorem cells3 : Try.prog.cellsOf 3 = 1 := by kernel_rfl
theorem cells42 : Try.prog.cellsOf 42 = 4 := by kernel_rfl

theorem rises_any (most bytes oS oN oB n m l a oA u : Int) (sl : Option Addr) (len cap : Nat) (zs : Nat → Int) (hl : 0 ≤ l ∧ l < 18446744073709551616) (w : World)
    (hlen : (len : Int) ≤ 9223372036854775807) (hN : -9223372036854775808 ≤ oN) (hB : -9223372036854775808 ≤ oB) (hsl : ∀ i, i < len → ∃ b off, sl = some ⟨b, off, none⟩ ∧ b < w.heap.size ∧ w.cell? ⟨b, off + i, none⟩ = some (.int .i64 (zs i))) :
    Calls Try.prog 4 #[.int .i64 most, .int .i64 bytes, .int .u64 l, .int .u64 a, .slice sl len cap, .agg #[.int .i64 oS, .int .i64 oN, .int .i64 oB, .int .u64 oA], .int .i64 n, .int .i64 m, .int .u64 u] w fun e w' =>
      e = .returned (.bool true) ∧ Below w.heap.size w w' := by
  by_cases hm : May most bytes l.toNat a.toNat
  · exact rises_ok most bytes oS oN oB n m l a oA u sl len cap zs hl hm w hlen hN hB hsl
  · exact rises_bad most bytes oS oN oB n m l a oA u _ hm w

set_option maxRecDepth 100000 in
theorem paceRises_lifted (os : Os) (started : os.Started) (H : Type) (enc : TypeId × Value → H) :
    ReturnsInHanded {} Try.checked os 4 .any (Rows.paceRisesSpec.pre6 enc Try.prog Try.f4 Rows.paceRisesRow.domain false) (Rows.paceRisesSpec.post enc Try.prog Try.f4 false true false false) := by
  refine returnsInHanded_of_change (C := Try.checked) own started (by kernel_rfl) Try.func4
    (ChangeSpec.witness6 (enc := enc) (C := Try.checked) false ⟨#[], #[.int .i64 0, .int .i64 0, .int .u64 0, .int .u64 0, .slice none 0 0, .agg #[.int .i64 0, .int .i64 0, .int .i64 0, .int .u64 0], .int .i64 0, .int .i64 0, .int .u64 0], []⟩ 8 (by kernel_rfl) (by kernel_rfl) (by kernel_rfl) (by kernel_rfl)) ?_
  intro W base args ds gs before hval0 hW hcnd _
  have hval : ∀ (j : Nat) t v, Try.f4.params[j]? = some t → args[j]? = some v → Value.okWide Try.prog W .any base t v := hval0
  have hW' := hW
  obtain ⟨p, q, hA0, hV, rfl, hfz, hnd⟩ := hW
  have hA : DataW.TrodAll enc Try.prog W 0 (fun _ => true) true Try.f4.params.toList args.toList ds p := hA0
  rw [Try.params4] at hA hval
  obtain ⟨v0, vs0, d0, ds0, p0, q0, hargs, rfl, rfl, h0, r0⟩ := trodAll_cons hA
  obtain ⟨v1, vs1, d1, ds1, p1, q1, rfl, rfl, rfl, h1, r1⟩ := trodAll_cons r0
  obtain ⟨v2, vs2, d2, ds2, p2, q2, rfl, rfl, rfl, h2, r2⟩ := trodAll_cons r1
  obtain ⟨v3, vs3, d3, ds3, p3, q3, rfl, rfl, rfl, h3, r3⟩ := trodAll_cons r2
  obtain ⟨v4, vs4, d4, ds4, p4, q4, rfl, rfl, rfl, h4, r4⟩ := trodAll_cons r3
  obtain ⟨v5, vs5, d5, ds5, p5, q5, rfl, rfl, rfl, h5, r5⟩ := trodAll_cons r4
  obtain ⟨v6, vs6, d6, ds6, p6, q6, rfl, rfl, rfl, h6, r6⟩ := trodAll_cons r5
  obtain ⟨v7, vs7, d7, ds7, p7, q7, rfl, rfl, rfl, h7, r7⟩ := trodAll_cons r6
  obtain ⟨v8, vs8, d8, ds8, p8, q8, rfl, rfl, rfl, h8, r8⟩ := trodAll_cons r7
  obtain ⟨rfl, rfl, rfl⟩ := trodAll_nil r8
  obtain rfl : args = #[v0, v1, v2, v3, v4, v5, v6, v7, v8] := by cases args; simp_all
  obtain ⟨a0, rfl, rfl, rfl, w0⟩ := open_int Try.underlying3 (hval 0 3 v0 rfl rfl) h0
  obtain ⟨a1, rfl, rfl, rfl, w1⟩ := open_int Try.underlying3 (hval 1 3 v1 rfl rfl) h1
  obtain ⟨a2, rfl, rfl, rfl, w2⟩ := open_int Try.underlying22 (hval 2 22 v2 rfl rfl) h2
  obtain ⟨a3, rfl, rfl, rfl, w3⟩ := open_int Try.underlying22 (hval 3 22 v3 rfl rfl) h3
  obtain ⟨sl, len, cap, zs, rfl, hlen, hwz, _, hsl⟩ := open_int_slice Try.underlying46 Try.underlying3 cells3 (hval 4 46 v4 rfl rfl) h4
  obtain ⟨c0, c1, c2, c3, y0, y1, y2, y3, fu, rfl, rfl, rfl, g0, g1, g2, g3⟩ := open_agg4 Try.underlying42 (by kernel_rfl) cells42 (hval 5 42 v5 rfl rfl) h5
  obtain ⟨b0, e0, rfl, x0⟩ := DataW.trod_int Try.underlying3 g0
  obtain ⟨b1, e1, rfl, x1⟩ := DataW.trod_int Try.underlying3 g1
  obtain ⟨b2, e2, rfl, x2⟩ := DataW.trod_int Try.underlying3 g2
  obtain ⟨b3, e3, rfl, x3⟩ := DataW.trod_int Try.underlying22 g3
  simp only [List.cons.injEq, and_true] at e0 e1 e2 e3
  subst e0; subst e1; subst e2; subst e3
  obtain ⟨a6, rfl, rfl, rfl, w6⟩ := open_int Try.underlying3 (hval 6 3 v6 rfl rfl) h6
  obtain ⟨a7, rfl, rfl, rfl, w7⟩ := open_int Try.underlying3 (hval 7 3 v7 rfl rfl) h7
  obtain ⟨a8, rfl, rfl, rfl, w8⟩ := open_int Try.underlying22 (hval 8 22 v8 rfl rfl) h8
  refine (rises_any a0 a1 b0 b1 b2 a6 a7 a2 a3 b3 a8 sl len cap zs (wf_u64 w2) W hlen (wf_i64 x1).1 (wf_i64 x2).1 hsl).mono fun e W' ⟨he, hb⟩ => ?_
  subst he
  have hr : (Try.f4.params.toList.all fun t => Try.prog.readableRec t && decide (t < Try.prog.types.size)) = true := by kernel_rfl
  exact ⟨_, rfl, law_post rfl rfl ⟨rfl, rfl, rfl⟩ (fun t ht => by have := List.all_eq_true.1 hr t ht; simpa using this) hW' hb⟩

theorem paceRises_holds : Rows.PaceRisesSaid :=
  OpenClaim.holds_of_wide 4 Try.f4 rfl rfl rfl rfl rfl rfl rfl ⟨rfl, rfl, rfl, rfl, rfl⟩ rfl rfl rfl rfl rfl (by kernel_rfl) Try.func4 (by kernel_rfl)
    (of_decide_eq_true (by kernel_rfl)) (by unfold Func.isWrapper; first | (rw [if_pos (by decide +kernel)]; kernel_rfl) | (rw [if_neg (by decide +kernel)]; exact ⟨rfl, rfl⟩))
    (fun os started H enc _ => paceRises_lifted os started H enc)
#print axioms paceRises_holds
end Go.Proofs.Ytofjgnlolmaidaa
