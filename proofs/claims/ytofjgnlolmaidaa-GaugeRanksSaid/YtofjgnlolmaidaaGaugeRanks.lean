/- PROVED: for every list of small numbers and every part, GaugeRanks answers true: a quantile is one of the numbers told, so many of them are not above it, and fewer are below. Conditions: none. -/
import Derived.Test.YtofjgnlolmaidaaGp
import Derived.Test.YtofjgnlolmaidaaLs
namespace Go.Proofs.Ytofjgnlolmaidaa
set_option linter.unusedVariables false
open Go.ChangeShapes Go.WideShapes Go.ChangeAt Go.RowKit

theorem ranks_any (sl : Option Addr) (len cap : Nat) (zs : Nat → Int) (a : Int) (w : World) (hlen : (len : Int) ≤ 9223372036854775807) (hz : ∀ i, (Lit.int .u8 (zs i)).wf = true) (ha : (Lit.int .u16 a).wf = true)
    (hsl : ∀ i, i < len → ∃ b off, sl = some ⟨b, off, none⟩ ∧ b < w.heap.size ∧ w.cell? ⟨b, off + i, none⟩ = some (.int .u8 (zs i))) :
    Calls Try.prog 7 #[.slice sl len cap, .int .u16 a] w fun e w' => e = .returned (.bool true) ∧ Below w.heap.size w w' := by
  have hz' : ∀ i, (((zs i).toNat : Nat) : Int) = zs i := fun i => by
    have := hz i
    simp [Lit.wf, IntKind.min, IntKind.max, IntKind.bits, IntKind.signed] at this
    omega
  have ha' : ((a.toNat : Nat) : Int) = a ∧ a.toNat < 65536 := by
    simp [Lit.wf, IntKind.min, IntKind.max, IntKind.bits, IntKind.signed] at ha
    omega
  have := ranks_walk sl len cap (fun i => (zs i).toNat) a.toNat w hlen ha'.2 (fun i hi => by
    obtain ⟨b, off, h1, h2, h3⟩ := hsl i hi
    exact ⟨b, off, h1, h2, by rw [h3, hz' i]⟩)
  rwa [ha'.1] at this

set_option maxRecDepth 100000 in
theorem gaugeRanks_lifted (os : Os) (started : os.Started) (H : Type) (enc : TypeId × Value → H) :
    ReturnsInHanded {} Try.checked os 7 .any (Rows.gaugeRanksSpec.pre6 enc Try.prog Try.f7 Rows.gaugeRanksRow.domain false) (Rows.gaugeRanksSpec.post enc Try.prog Try.f7 false true false false) := by
  refine returnsInHanded_of_change (C := Try.checked) own started (by kernel_rfl) Try.func7
    (ChangeSpec.witness6 (enc := enc) (C := Try.checked) false ⟨#[], #[.slice none 0 0, .int .u16 0], []⟩ 8 (by kernel_rfl) (by kernel_rfl) (by kernel_rfl) (by kernel_rfl)) ?_
  intro W base args ds gs before hval0 hW hcnd _
  have hval : ∀ (j : Nat) t v, Try.f7.params[j]? = some t → args[j]? = some v → Value.okWide Try.prog W .any base t v := hval0
  have hW' := hW
  obtain ⟨p, q, hA0, hV, rfl, hfz, hnd⟩ := hW
  have hA : DataW.TrodAll enc Try.prog W 0 (fun _ => true) true Try.f7.params.toList args.toList ds p := hA0
  rw [Try.params7] at hA hval
  obtain ⟨v0, vs0, d0, ds0, p0, q0, hargs, rfl, rfl, h0, r0⟩ := trodAll_cons hA
  obtain ⟨v1, vs1, d1, ds1, p1, q1, rfl, rfl, rfl, h1, r1⟩ := trodAll_cons r0
  obtain ⟨rfl, rfl, rfl⟩ := trodAll_nil r1
  obtain rfl : args = #[v0, v1] := by cases args; simp_all
  obtain ⟨s0, len0, cap0, zs0, rfl, hlen0, hwz0, hnil0, hs0⟩ := open_int_slice Try.underlying55 Try.underlying5 (by kernel_rfl) (hval 0 55 v0 rfl rfl) h0
  obtain ⟨a1, rfl, rfl, rfl, w1⟩ := open_int Try.underlying49 (hval 1 49 v1 rfl rfl) h1
  refine (ranks_any s0 len0 cap0 zs0 a1 W hlen0 hwz0 w1 hs0).mono fun e W' ⟨he, hb⟩ => ?_
  subst he
  have hr : (Try.f7.params.toList.all fun t => Try.prog.readableRec t && decide (t < Try.prog.types.size)) = true := by kernel_rfl
  exact ⟨_, rfl, law_post rfl rfl ⟨rfl, rfl, rfl⟩ (fun t ht => by have := List.all_eq_true.1 hr t ht; simpa using this) hW' hb⟩

theorem gaugeRanks_holds : Rows.GaugeRanksSaid :=
  OpenClaim.holds_of_wide 7 Try.f7 rfl rfl rfl rfl rfl rfl rfl ⟨rfl, rfl, rfl, rfl, rfl⟩ rfl rfl rfl rfl rfl (by kernel_rfl) Try.func7 (by kernel_rfl)
    (of_decide_eq_true (by kernel_rfl)) (by unfold Func.isWrapper; first | (rw [if_pos (by decide +kernel)]; kernel_rfl) | (rw [if_neg (by decide +kernel)]; exact ⟨rfl, rfl⟩))
    (fun os started H enc _ => gaugeRanks_lifted os started H enc)
#print axioms gaugeRanks_holds
end Go.Proofs.Ytofjgnlolmaidaa
