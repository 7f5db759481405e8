/- Numbers of their bits; whether two gauges have the same bounds; the mean of two. -/
import Derived.Test.YtofjgnlolmaidaaGp
import Derived.Test.YtofjgnlolmaidaaGl
namespace Go.Proofs.Ytofjgnlolmaidaa
set_option linter.unusedVariables false
open Go.RowKit
attribute [local go_sem] run_store_float run_fop_add run_fop_sub run_fop_mul run_fop_quo

/-- Where a list of floats lies. -/
structure FltAt (w : World) (sl : Option Addr) (n cap : Nat) (f : Nat → Nat) : Prop where
  cel : ∀ i, i < n → ∃ b off, sl = some ⟨b, off, none⟩ ∧ b < w.heap.size ∧ w.cell? ⟨b, off + i, none⟩ = some (.float .f64 (f i))
  nil : sl = none → n = 0 ∧ cap = 0
theorem FltAt.below {w w' : World} {sl : Option Addr} {n cap : Nat} {f : Nat → Nat} {B : Nat} (h : FltAt w sl n cap f) (hb : Below B w w') (hB : w.heap.size ≤ B) : FltAt w' sl n cap f :=
  ⟨fun i hi => by
    obtain ⟨b, off, h1, h2, h3⟩ := h.cel i hi
    exact ⟨b, off, h1, Nat.lt_of_lt_of_le h2 hb.size, (hb.cell (p := ⟨b, off + i, none⟩) (by show b < B; omega)).trans h3⟩, h.nil⟩

def fls2 (f : Nat → Nat) (k : Nat) : List Value := (List.range k).map fun j => Value.float .f64 (f j)
theorem fls2_succ (f : Nat → Nat) (k : Nat) : fls2 f k ++ [Value.float .f64 (f k)] = fls2 f (k + 1) := by simp [fls2, List.range_succ]
theorem fls2_get {f : Nat → Nat} {k j : Nat} (h : j < k) : (fls2 f k)[j]? = some (Value.float .f64 (f j)) := by simp [fls2, h]

set_option maxHeartbeats 2000000 in
theorem of31 (sl : Option Addr) (len cap : Nat) (zs : Nat → Int) (w : World) (hlen : len * 8 ≤ 140737488351232)
    (hsl : ∀ i, i < len → ∃ b off, sl = some ⟨b, off, none⟩ ∧ b < w.heap.size ∧ w.cell? ⟨b, off + i, none⟩ = some (.int .u64 (zs i))) :
    Calls Try.prog 31 #[.slice sl len cap] w fun e w' => ∃ sl' cap', e = .returned (.slice sl' len cap') ∧ FltAt w' sl' len cap' (fun i => (zs i).toNat) ∧ Below w.heap.size w w' := by
  obtain ⟨i0, hi, hz0, hz1, hz2⟩ := info_parts (show (Try.prog.info? 25).map (fun i => (i.zero, i.size, i.bytes)) = some (some (.float .f64 0), 1, 8) from by kernel_rfl)
  have HSL := Lib.hid hsl
  have e19 := ext19
  clear hsl
  go_enter Try.func31, Try.ntmps31
  go_wp2_with fail
  go_loopw [3, 4] (fun v i wr => ∃ k : Nat, k ≤ len ∧ i = .int .i64 k ∧ wr.ownsRow w.heap.size 25 1 v k (fls2 (fun i => (zs i).toNat) k) ∧ Below w.heap.size w wr) (fun _ i _ => len - (intOf i).toNat)
  case atStart => exact ⟨0, Nat.zero_le _, rfl, World.ownsRow_nil _ _ _ _, Below.refl _ _⟩
  case round =>
    obtain ⟨k, hk, rfl, hown, hbr⟩ := hrel
    by_cases hlt : k < len
    · have hsz := hbr.size
      obtain ⟨cb, off, rfl, hbw, hcell⟩ := HSL.out k hlt
      have hcell' : wr.cell? ⟨cb, off + k, none⟩ = some (.int .u64 (zs k)) := (hbr.cell (p := ⟨cb, off + k, none⟩) hbw).trans hcell
      clear hcell
      go_wp2_with (first
        | (at_builtin; refine wpList_append_own _ rfl _ _ 56 rfl w.heap.size 25 i0 (.float .f64 0) 1 8 Try.underlying56 hi hz0 hz1 hz2 rfl (by decide) _ _ _ rfl (hown.alloc _) ⟨wr.heap.size, 0, none⟩ 1 1 [.float .f64 (zs k).toNat] rfl rfl ?c1 ?c2 ?c3 ?c4 ?c5 ?_))
      case c1 =>
        intro j u hj
        match j, hj with
        | 0, hj => simp at hj; subst hj; simp [Addr.add]
      case c2 => intro u hu; simp at hu; subst hu; rfl
      case c3 => unfold maxLen; omega
      case c4 => omega
      case c5 => simp; omega
      · intro v' w4 hown' hgrow _
        have hb4 := below_own (hbr.alloc hbr.size _) (hown.alloc _) hgrow (by simp; omega)
        have hown2 : w4.ownsRow w.heap.size 25 1 v' (k + 1) (fls2 (fun i => (zs i).toNat) (k + 1)) := by rw [← fls2_succ]; exact hown'
        clear hown' hgrow hown hbr
        go_wp2_with fail
        go_roundw
        case rel => exact ⟨k + 1, by omega, by go_num, hown2, hb4⟩
        case measure => simp [intOf]; omega
    · have hk2 : k = len := by omega
      subst hk2
      have H := Lib.hid hown
      have hB := Lib.hid hbr
      clear hown hbr hlt
      go_wp2_with fail
      go_ret
      rcases H.out.2 with ⟨rfl, h0⟩ | ⟨g, c, cur, rfl, _⟩
      · exact ⟨none, 0, by rw [h0]; rfl, ⟨fun i hi => by omega, fun _ => ⟨h0, rfl⟩⟩, hB.out⟩
      · refine ⟨some ⟨g, 0, none⟩, c, rfl, ⟨fun i hi => ⟨g, 0, rfl, (H.out.lt g rfl).2, ?_⟩, nofun⟩, hB.out⟩
        rw [Nat.zero_add]
        exact (H.out.cellAt i (by omega)).trans (fls2_get hi)

/-- The mean of two. -/
def meanOf (c1 : Int) (m1 : Nat) (c2 : Int) (m2 : Nat) : Nat :=
  if c2 = 0 then m1 else if c1 = 0 then m2 else
  Fl.canonO ((Ieee.double.sub m2 m1).bind fun d => (Ieee.double.div (Fl.ofI c2) (Fl.ofI (c1 + c2))).bind fun q => (Ieee.double.mul d q).bind fun y => Ieee.double.add m1 y)


theorem canon_mean2 (m1 m2 : Nat) (c1 c : Int) (w0 w1 w2 w3 : World) : Fl.canon (fopR .add m1 (fopR .mul (fopR .sub m2 m1 w0) (fopR .quo (floatOfInt .f64 c1) (floatOfInt .f64 c) w1) w2) w3) =
    Fl.canonO ((Ieee.double.sub m2 m1).bind fun d => (Ieee.double.div (Fl.ofI c1) (Fl.ofI c)).bind fun q => (Ieee.double.mul d q).bind fun y => Ieee.double.add m1 y) := by
  rw [canon_add, Fl.ofI_floatOfInt, Fl.ofI_floatOfInt]
  cases h0 : Ieee.double.sub m2 m1 with
  | none => rw [add_nan_r (fopR_none (op := .mul) w2 (mul_nan_l (fopR_none (op := .sub) w0 h0)))]; rfl
  | some d =>
    rw [fopR_some (op := .sub) w0 h0]
    simp only [Option.bind_some]
    cases h1 : Ieee.double.div (Fl.ofI c1) (Fl.ofI c) with
    | none => rw [add_nan_r (fopR_none (op := .mul) w2 (mul_nan_r (fopR_none (op := .quo) w1 h1)))]; rfl
    | some q =>
      rw [fopR_some (op := .quo) w1 h1]
      simp only [Option.bind_some]
      cases h2 : Ieee.double.mul d q with
      | none => rw [add_nan_r (fopR_none (op := .mul) w2 h2)]; rfl
      | some y => rw [fopR_some (op := .mul) w2 h2]; rfl

set_option maxHeartbeats 1000000 in
theorem mean58 (c1 n1 : Int) (l1 g1 m1 : Nat) (c2 n2 : Int) (l2 g2 m2 : Nat) (h1 : 0 ≤ c1 ∧ c1 ≤ 1000000000) (h2 : 0 ≤ c2 ∧ c2 ≤ 1000000000) (w : World) :
    Calls Try.prog 58 #[.agg #[.int .i64 c1, .int .i64 n1, .float .f64 l1, .float .f64 g1, .float .f64 m1], .agg #[.int .i64 c2, .int .i64 n2, .float .f64 l2, .float .f64 g2, .float .f64 m2]] w
      fun e w' => e = .returned (.float .f64 (meanOf c1 m1 c2 m2)) ∧ Below w.heap.size w w' := by
  have hB : ∀ (n : Nat) (o1 o2 : Obj), Below w.heap.size w (((w.alloc o1).alloc o2).drewN n) := fun n o1 o2 => by
    have h : Below w.heap.size w ((w.alloc o1).alloc o2) := (((Below.refl _ _).alloc (Nat.le_refl _) _).alloc (by simp) _)
    exact ⟨h.os, h.tape, h.output, h.size, h.block⟩
  have hB0 : ∀ (o1 o2 : Obj), Below w.heap.size w ((w.alloc o1).alloc o2) := fun o1 o2 => (((Below.refl _ _).alloc (Nat.le_refl _) _).alloc (by simp) _)
  by_cases k2 : c2 = 0
  · have H : Hid (meanOf c1 m1 c2 m2 = m1) := Lib.hid (if_pos k2)
    subst k2
    go_enter Try.func58, Try.ntmps58
    go_wp2_with fail
    go_ret
    exact ⟨by rw [H.out]; rfl, hB0 _ _⟩
  · by_cases k1 : c1 = 0
    · have H : Hid (meanOf c1 m1 c2 m2 = m2) := Lib.hid ((if_neg k2).trans (if_pos k1))
      subst k1
      have k2' : (c2 == 0) = false := by simpa using k2
      go_enter Try.func58, Try.ntmps58
      go_wp2_with fail
      go_ret
      exact ⟨by rw [H.out]; rfl, hB0 _ _⟩
    · have H : Hid (meanOf c1 m1 c2 m2 = _) := Lib.hid ((if_neg k2).trans (if_neg k1))
      have k2' : (c2 == 0) = false := by simpa using k2
      have k1' : (c1 == 0) = false := by simpa using k1
      go_enter Try.func58, Try.ntmps58
      go_wp2_with (go_at_call 47; refine (canon_any _ _).mono ?_; rintro e w' ⟨rfl, rfl⟩)
      go_ret
      refine ⟨?_, ?_⟩
      · rw [H.out]
        show Ending.returned (Value.float .f64 _) = _
        rw [canon_mean2]
      · simp only [World.drewN]
        exact hB _ _ _
end Go.Proofs.Ytofjgnlolmaidaa
