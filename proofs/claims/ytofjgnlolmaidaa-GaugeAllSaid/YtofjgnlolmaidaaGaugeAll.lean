/- PROVED: for any bounds, any numbers, any other bounds and any quantiles GaugeAll answers true: the gauge tells what the document's gauge tells, behind New, Put, Quantile, Cells, Look and Merge with another, with one like it, with itself and with nil. Conditions: none. -/
import Derived.Test.YtofjgnlolmaidaaHi
import Derived.Test.YtofjgnlolmaidaaLs
import Derived.SizedLaws
namespace Go.Proofs.Ytofjgnlolmaidaa
set_option linter.unusedVariables false
open Go.ChangeShapes Go.WideShapes Go.ChangeAt Go.RowKit

theorem low {z : Nat → Int} (h : ∀ i, (Lit.int .u64 (z i)).wf = true) : ∀ i, (z i).toNat < 18446744073709551616 := fun i => by
  have := h i
  simp [Lit.wf, IntKind.min, IntKind.max, IntKind.bits, IntKind.signed] at this
  omega
theorem bytes22 : Try.prog.bytesOf 22 = 8 := by kernel_rfl

set_option maxRecDepth 100000 in
theorem slice_reach {H : Type} {enc : TypeId × Value → H} {w : World} {d : DataW H} {ps : List MemPlace} {spare : Nat → Bool} {ts : List TypeId} {ds : List (DataW H)} {j : Nat} {sl : Option Addr} {len cap : Nat}
    (hsz : (DataW.weightsEach Try.prog ts ds).all (· ≤ reachBytes) = true) (ht : ts[j]? = some 63) (hd : ds[j]? = some d) (h : DataW.Trod enc Try.prog w 0 spare true 63 (.slice sl len cap) d ps) : len * 8 ≤ 140737488351232 := by
  obtain ⟨fuel, hf⟩ := h
  rcases open_ints Try.underlying63 Try.underlying22 (by kernel_rfl) hf with ⟨hcs, hx⟩ | ⟨a', len', cap', zs, hcs, _, hl, hm, hz, hx, hcell, hwz⟩
  · simp only [Value.cells, List.cons.injEq, and_true] at hcs
    injection hcs with e1 e2 e3
    subst e2
    omega
  · simp only [Value.cells, List.cons.injEq, and_true] at hcs
    injection hcs with e1 e2 e3
    subst e1; subst e2; subst e3
    have hlz : len ≤ zs.length := by rw [hz]; split <;> omega
    have hd2 := (Prod.mk.inj hx).1
    subst hd2
    have := sized_slice hsz ht hd Try.underlying63
    rw [bytes22] at this
    simp only [lits, List.length_map, List.length_take, List.length_drop, reachBytes] at this
    omega

set_option maxRecDepth 100000 in
theorem gaugeAll_lifted (os : Os) (started : os.Started) (H : Type) (enc : TypeId × Value → H) :
    ReturnsInHanded {} Try.checked os 8 .any (Rows.gaugeAllSpec.pre6 enc Try.prog Try.f8 Rows.gaugeAllRow.domain false) (Rows.gaugeAllSpec.post enc Try.prog Try.f8 false true false false) := by
  refine returnsInHanded_of_change_sized (C := Try.checked) own started (by kernel_rfl) Try.func8
    (ChangeSpec.witness6 (enc := enc) (C := Try.checked) false ⟨#[], #[.slice none 0 0, .slice none 0 0, .slice none 0 0, .slice none 0 0, .slice none 0 0], []⟩ 8 (by kernel_rfl) (by kernel_rfl) (by kernel_rfl) (by kernel_rfl)) ?_
  intro W base args ds gs before hval0 hW hcnd hsz0 _
  have hsz : (DataW.weightsEach Try.prog (Try.f8.params.toList ++ Rows.gaugeAllSpec.plain.varTypes Try.prog) (ds ++ gs)).all (· ≤ reachBytes) = true := hsz0
  clear hsz0
  have hval : ∀ (j : Nat) t v, Try.f8.params[j]? = some t → args[j]? = some v → Value.okWide Try.prog W .any base t v := hval0
  have hW' := hW
  obtain ⟨p, q, hA0, hV, rfl, hfz, hnd⟩ := hW
  have hA : DataW.TrodAll enc Try.prog W 0 (fun _ => true) true Try.f8.params.toList args.toList ds p := hA0
  rw [Try.params8] at hA hval hsz
  obtain ⟨v0, vs0, d0, ds0, p0, q0, hargs, rfl, rfl, h0, r0⟩ := trodAll_cons hA
  obtain ⟨v1, vs1, d1, ds1, p1, q1, rfl, rfl, rfl, h1, r1⟩ := trodAll_cons r0
  obtain ⟨v2, vs2, d2, ds2, p2, q2, rfl, rfl, rfl, h2, r2⟩ := trodAll_cons r1
  obtain ⟨v3, vs3, d3, ds3, p3, q3, rfl, rfl, rfl, h3, r3⟩ := trodAll_cons r2
  obtain ⟨v4, vs4, d4, ds4, p4, q4, rfl, rfl, rfl, h4, r4⟩ := trodAll_cons r3
  obtain ⟨rfl, rfl, rfl⟩ := trodAll_nil r4
  obtain rfl : args = #[v0, v1, v2, v3, v4] := by cases args; simp_all
  obtain ⟨s0, len0, cap0, zs0, rfl, hlen0, hwz0, hnil0, hs0⟩ := open_int_slice Try.underlying63 Try.underlying22 (by kernel_rfl) (hval 0 63 v0 rfl rfl) h0
  obtain ⟨s1, len1, cap1, zs1, rfl, hlen1, hwz1, hnil1, hs1⟩ := open_int_slice Try.underlying63 Try.underlying22 (by kernel_rfl) (hval 1 63 v1 rfl rfl) h1
  obtain ⟨s2, len2, cap2, zs2, rfl, hlen2, hwz2, hnil2, hs2⟩ := open_int_slice Try.underlying63 Try.underlying22 (by kernel_rfl) (hval 2 63 v2 rfl rfl) h2
  obtain ⟨s3, len3, cap3, zs3, rfl, hlen3, hwz3, hnil3, hs3⟩ := open_int_slice Try.underlying63 Try.underlying22 (by kernel_rfl) (hval 3 63 v3 rfl rfl) h3
  obtain ⟨s4, len4, cap4, zs4, rfl, hlen4, hwz4, hnil4, hs4⟩ := open_int_slice Try.underlying63 Try.underlying22 (by kernel_rfl) (hval 4 63 v4 rfl rfl) h4
  have g0 := slice_reach (j := 0) hsz rfl rfl h0
  have g1 := slice_reach (j := 1) hsz rfl rfl h1
  have g2 := slice_reach (j := 2) hsz rfl rfl h2
  have g3 := slice_reach (j := 3) hsz rfl rfl h3
  have g4 := slice_reach (j := 4) hsz rfl rfl h4
  refine (gall_walk s0 len0 cap0 zs0 s1 len1 cap1 zs1 s2 len2 cap2 zs2 s3 len3 cap3 zs3 s4 len4 cap4 zs4 W g0 g1 g2 g3 g4 (low hwz0) (low hwz1) (low hwz2) (low hwz3) hs0 hs1 hs2 hs3 hs4).mono fun e W' ⟨he, hb⟩ => ?_
  subst he
  have hr : (Try.f8.params.toList.all fun t => Try.prog.readableRec t && decide (t < Try.prog.types.size)) = true := by kernel_rfl
  exact ⟨_, rfl, law_post rfl rfl ⟨rfl, rfl, rfl⟩ (fun t ht => by have := List.all_eq_true.1 hr t ht; simpa using this) hW' hb⟩

theorem gaugeAll_holds : Rows.GaugeAllSaid :=
  OpenClaim.holds_of_wide 8 Try.f8 rfl rfl rfl rfl rfl rfl rfl ⟨rfl, rfl, rfl, rfl, rfl⟩ rfl rfl rfl rfl rfl (by kernel_rfl) Try.func8 (by kernel_rfl)
    (of_decide_eq_true (by kernel_rfl)) (by unfold Func.isWrapper; first | (rw [if_pos (by decide +kernel)]; kernel_rfl) | (rw [if_neg (by decide +kernel)]; exact ⟨rfl, rfl⟩))
    (fun os started H enc _ => gaugeAll_lifted os started H enc)
#print axioms gaugeAll_holds
end Go.Proofs.Ytofjgnlolmaidaa
