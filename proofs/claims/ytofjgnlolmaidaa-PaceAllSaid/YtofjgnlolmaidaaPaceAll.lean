/- PROVED: for every params and every list of operations (batches that went, plans that are asked for), PaceAll answers true: the program's pace answers, call by call, what the document's own does (the first 300 calls). Conditions: none. -/
import Derived.Test.YtofjgnlolmaidaaWm
import Derived.Test.YtofjgnlolmaidaaLs
namespace Go.Proofs.Ytofjgnlolmaidaa
set_option linter.unusedVariables false
open Go.ChangeShapes Go.WideShapes Go.ChangeAt Go.RowKit Go.Joins

theorem cells42a : Try.prog.cellsOf 42 = 4 := by kernel_rfl

set_option maxRecDepth 100000 in
/-- The operations' slice, opened: of each element its four cells. -/
theorem open_ops {H : Type} {enc : TypeId × Value → H} {w : World} {r : Reach} {b0 : Nat} {v : Value} {d : DataW H} {ps : List MemPlace} {spare : Nat → Bool}
    (hv : Value.okWide Try.prog w r b0 23 v) (h : DataW.Trod enc Try.prog w 0 spare true 23 v d ps) :
    ∃ (sl : Option Addr) (len cap : Nat) (zs : Nat → Int × Int × Int × Int), v = .slice sl len cap ∧ (len : Int) ≤ 9223372036854775807 ∧
      ∀ i, i < len → ∃ b off, sl = some ⟨b, off, none⟩ ∧ b < w.heap.size ∧ OpAt w b (off + i * 4) (zs i).1 (zs i).2.1 (zs i).2.2.1 (zs i).2.2.2 := by
  have hs := okWide_slice Try.underlying23 hv
  obtain ⟨a, len, cap, rfl⟩ := hs
  obtain ⟨fuel, hf⟩ := h
  rcases DataW.trod_slice Try.underlying23 hf with ⟨hcs, _⟩ | ⟨a', len', cap', elems, rest, n, _, hcs, _, _, hl, hm, hlen, hel, _, _⟩
  · simp only [Value.cells, List.cons.injEq, and_true] at hcs
    injection hcs with e1 e2 e3
    subst e1; subst e2; subst e3
    exact ⟨none, 0, 0, fun _ => (0, 0, 0, 0), rfl, by omega, fun i hi => absurd hi (Nat.not_lt_zero _)⟩
  · simp only [Value.cells, List.cons.injEq, and_true] at hcs
    injection hcs with e1 e2 e3
    subst e1; subst e2; subst e3
    have each : ∀ i, i < len → ∃ z : Int × Int × Int × Int, ∃ b off, some a' = some (⟨b, off, none⟩ : Addr) ∧ b < w.heap.size ∧ OpAt w b (off + i * 4) z.1 z.2.1 z.2.2.1 z.2.2.2 := by
      intro i hi
      have h1 := hel i hi
      rw [List.getElem?_eq_getElem (by omega : i < elems.length), cells42a] at h1
      obtain ⟨cs, hc, ht⟩ := Option.bind_eq_some_iff.1 h1
      obtain ⟨_, hcl, hat⟩ := World.cells?_some hc
      obtain ⟨y0, y1, y2, y3, m, _, _, g0, g1, g2, g3⟩ := trod_struct4 Try.underlying42 ht
      match cs, hcl with
      | [c0, c1, c2, c3], _ =>
        have k3 : Try.prog.cellsOf 3 = 1 := by kernel_rfl
        have k22 : Try.prog.cellsOf 22 = 1 := by kernel_rfl
        simp only [k3, k22, List.drop_zero, List.drop_succ_cons, List.take_succ_cons, List.take_zero] at g0 g1 g2 g3
        obtain ⟨b0, e0, rfl, x0⟩ := DataW.trod_int Try.underlying3 g0
        obtain ⟨b1, e1, rfl, x1⟩ := DataW.trod_int Try.underlying3 g1
        obtain ⟨b2, e2, rfl, x2⟩ := DataW.trod_int Try.underlying3 g2
        obtain ⟨b3, e3, rfl, x3⟩ := DataW.trod_int Try.underlying22 g3
        simp only [List.cons.injEq, and_true] at e0 e1 e2 e3
        subst e0; subst e1; subst e2; subst e3
        have a0 := hat 0 (by omega)
        have a1 := hat 1 (by omega)
        have a2 := hat 2 (by omega)
        have a3 := hat 3 (by omega)
        rw [Go.Deep.add_add] at a0 a1 a2 a3
        obtain ⟨ea, hb⟩ := addr_of_cell a0
        have e0 : a'.spot = none ∨ 0 < i := by
          by_cases hi0 : 0 < i
          · exact .inr hi0
          · left
            have : i = 0 := by omega
            subst this
            have := congrArg Addr.spot ea
            simpa [Addr.add] using this
        have first : a'.spot = none := by
          rcases e0 with e0 | e0
          · exact e0
          · have h0 := hel 0 (by omega)
            rw [List.getElem?_eq_getElem (by omega : 0 < elems.length), cells42a] at h0
            obtain ⟨cs', hc', _⟩ := Option.bind_eq_some_iff.1 h0
            obtain ⟨_, hcl', hat'⟩ := World.cells?_some hc'
            have q := hat' 0 (by omega)
            match cs', hcl' with
            | [d0, d1, d2, d3], _ =>
              obtain ⟨ea', _⟩ := addr_of_cell q
              have := congrArg Addr.spot ea'
              simpa [Addr.add] using this
        have hadd : ∀ j, a'.add j = ⟨a'.block, a'.off + j, none⟩ := by
          intro j
          unfold Addr.add
          by_cases hj : j = 0
          · subst hj; rw [if_pos rfl, Nat.add_zero]; cases a' with | mk b o s => cases first; rfl
          · rw [if_neg hj]
        rw [hadd] at a0 a1 a2 a3 hb
        refine ⟨(b0, b1, b2, b3), a'.block, a'.off, ?_, hb, ?_⟩
        · have := hadd 0; rw [Nat.add_zero] at this; rw [← this]; rfl
        · exact ⟨by simpa using a0, by simpa [Nat.add_assoc] using a1, by simpa [Nat.add_assoc] using a2, by simpa [Nat.add_assoc] using a3⟩
    refine ⟨some a', len, cap, fun i => if hi : i < len then (each i hi).choose else (0, 0, 0, 0), rfl, by unfold maxLen at hm; omega, fun i hi => ?_⟩
    simp only [dif_pos hi]
    exact (each i hi).choose_spec

theorem all_any (most bytes l a : Int) (sl : Option Addr) (len cap : Nat) (zs : Nat → Int × Int × Int × Int) (hl : 0 ≤ l ∧ l < 18446744073709551616) (w : World)
    (hlen : (len : Int) ≤ 9223372036854775807) (hsl : ∀ i, i < len → ∃ b off, sl = some ⟨b, off, none⟩ ∧ b < w.heap.size ∧ OpAt w b (off + i * 4) (zs i).1 (zs i).2.1 (zs i).2.2.1 (zs i).2.2.2) :
    Calls Try.prog 3 #[.int .i64 most, .int .i64 bytes, .int .u64 l, .int .u64 a, .slice sl len cap] w fun e w' => e = .returned (.bool true) ∧ Below w.heap.size w w' := by
  by_cases hm : May most bytes l.toNat a.toNat
  · exact all_ok most bytes l a sl len cap zs hl hm w hlen hsl
  · exact all_bad most bytes l a _ hm w

set_option maxRecDepth 100000 in
theorem paceAll_lifted (os : Os) (started : os.Started) (H : Type) (enc : TypeId × Value → H) :
    ReturnsInHanded {} Try.checked os 3 .any (Rows.paceAllSpec.pre6 enc Try.prog Try.f3 Rows.paceAllRow.domain false) (Rows.paceAllSpec.post enc Try.prog Try.f3 false true false false) := by
  refine returnsInHanded_of_change (C := Try.checked) own started (by kernel_rfl) Try.func3
    (ChangeSpec.witness6 (enc := enc) (C := Try.checked) false ⟨#[], #[.int .i64 0, .int .i64 0, .int .u64 0, .int .u64 0, .slice none 0 0], []⟩ 8 (by kernel_rfl) (by kernel_rfl) (by kernel_rfl) (by kernel_rfl)) ?_
  intro W base args ds gs before hval0 hW hcnd _
  have hval : ∀ (j : Nat) t v, Try.f3.params[j]? = some t → args[j]? = some v → Value.okWide Try.prog W .any base t v := hval0
  have hW' := hW
  obtain ⟨p, q, hA0, hV, rfl, hfz, hnd⟩ := hW
  have hA : DataW.TrodAll enc Try.prog W 0 (fun _ => true) true Try.f3.params.toList args.toList ds p := hA0
  rw [Try.params3] at hA hval
  obtain ⟨v0, vs0, d0, ds0, p0, q0, hargs, rfl, rfl, h0, r0⟩ := trodAll_cons hA
  obtain ⟨v1, vs1, d1, ds1, p1, q1, rfl, rfl, rfl, h1, r1⟩ := trodAll_cons r0
  obtain ⟨v2, vs2, d2, ds2, p2, q2, rfl, rfl, rfl, h2, r2⟩ := trodAll_cons r1
  obtain ⟨v3, vs3, d3, ds3, p3, q3, rfl, rfl, rfl, h3, r3⟩ := trodAll_cons r2
  obtain ⟨v4, vs4, d4, ds4, p4, q4, rfl, rfl, rfl, h4, r4⟩ := trodAll_cons r3
  obtain ⟨rfl, rfl, rfl⟩ := trodAll_nil r4
  obtain rfl : args = #[v0, v1, v2, v3, v4] := by cases args; simp_all
  obtain ⟨a0, rfl, rfl, rfl, w0⟩ := open_int Try.underlying3 (hval 0 3 v0 rfl rfl) h0
  obtain ⟨a1, rfl, rfl, rfl, w1⟩ := open_int Try.underlying3 (hval 1 3 v1 rfl rfl) h1
  obtain ⟨a2, rfl, rfl, rfl, w2⟩ := open_int Try.underlying22 (hval 2 22 v2 rfl rfl) h2
  obtain ⟨a3, rfl, rfl, rfl, w3⟩ := open_int Try.underlying22 (hval 3 22 v3 rfl rfl) h3
  obtain ⟨sl, len, cap, zs, rfl, hlen, hsl⟩ := open_ops (hval 4 23 v4 rfl rfl) h4
  refine (all_any a0 a1 a2 a3 sl len cap zs (wf_u64 w2) W hlen hsl).mono fun e W' ⟨he, hb⟩ => ?_
  subst he
  have hr : (Try.f3.params.toList.all fun t => Try.prog.readableRec t && decide (t < Try.prog.types.size)) = true := by kernel_rfl
  exact ⟨_, rfl, law_post rfl rfl ⟨rfl, rfl, rfl⟩ (fun t ht => by have := List.all_eq_true.1 hr t ht; simpa using this) hW' hb⟩

theorem paceAll_holds : Rows.PaceAllSaid :=
  OpenClaim.holds_of_wide 3 Try.f3 rfl rfl rfl rfl rfl rfl rfl ⟨rfl, rfl, rfl, rfl, rfl⟩ rfl rfl rfl rfl rfl (by kernel_rfl) Try.func3 (by kernel_rfl)
    (of_decide_eq_true (by kernel_rfl)) (by unfold Func.isWrapper; first | (rw [if_pos (by decide +kernel)]; kernel_rfl) | (rw [if_neg (by decide +kernel)]; exact ⟨rfl, rfl⟩))
    (fun os started H enc _ => paceAll_lifted os started H enc)
#print axioms paceAll_holds
end Go.Proofs.Ytofjgnlolmaidaa
