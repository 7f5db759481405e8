/- Whether two gauges have the same bounds. -/
import Derived.Test.YtofjgnlolmaidaaGq
import Derived.BigQuiet
import Derived.Test.YtofjgnlolmaidaaGl
namespace Go.Proofs.Ytofjgnlolmaidaa
set_option linter.unusedVariables false
open Go.RowKit
attribute [local go_sem] run_store_float run_fop_add run_fop_sub run_fop_mul run_fop_quo


def alikeFrom (g o : Gau) : Nat → Nat → Bool
  | 0, _ => true
  | d + 1, i => if key (g.bs i) = key (o.bs i) then alikeFrom g o d (i + 1) else false
def alike (g o : Gau) : Bool := if g.n = o.n then alikeFrom g o g.n 0 else false

set_option maxHeartbeats 2000000 in
theorem alike57 {w : World} {b bc bb b' bc' bb' : Nat} {g o : Gau} (h : GaugeAt w b bc bb g) (h' : GaugeAt w b' bc' bb' o) (hw : Wide g) (hw' : Wide o) (n64 : g.n ≤ 64) (n64' : o.n ≤ 64) :
    Calls Try.prog 57 #[.pointer (some ⟨b, 0, none⟩), .pointer (some ⟨b', 0, none⟩)] w fun e w' => e = .returned (.bool (alike g o)) ∧ Drawn w w' := by
  obtain ⟨sl, cap, h1, hsl⟩ := h.c1
  obtain ⟨sl', cap', h1', hsl'⟩ := h'.c1
  have BN := Lib.hid h.bnd
  have BN' := Lib.hid h'.bnd
  have HSL := Lib.hid hsl
  have HSL' := Lib.hid hsl'
  have W := Lib.hid hw
  have W' := Lib.hid hw'
  clear h h' hsl hsl' hw hw'
  by_cases hn : g.n = o.n
  · have hn' : (g.n != o.n) = false := by simp [hn]
    have hni : ((g.n : Int) != (o.n : Int)) = false := by simp [hn]
    have H : Hid (alike g o = alikeFrom g o g.n 0) := Lib.hid (if_pos hn)
    have HN := Lib.hid hn
    clear hn
    go_enter Try.func57, Try.ntmps57
    go_wp2_with fail
    go_quiet (fail)
    go_wp2_with fail
    go_loop [23] (fun i => ∃ k : Nat, k ≤ g.n ∧ i = .int .i64 k ∧ alikeFrom g o g.n 0 = alikeFrom g o (g.n - k) k) (fun i => g.n - (intOf i).toNat)
    case atStart => exact ⟨0, Nat.zero_le _, rfl, rfl⟩
    case round =>
      obtain ⟨k, hk, rfl, hq⟩ := hrel
      have HQ := Lib.hid hq
      clear hq
      by_cases hlt : k < g.n
      · have hlo : k < o.n := by rw [← HN.out]; exact hlt
        have e1 := HSL.out k hlt
        have e2 := HSL'.out k hlo
        subst e1
        subst e2
        have hb1 : (w.drewN nq).cell? ⟨bb, k, none⟩ = some (.float .f64 (g.bs k)) := BN.out k hlt
        have hb2 : (w.drewN nq).cell? ⟨bb', k, none⟩ = some (.float .f64 (o.bs k)) := BN'.out k hlo
        have hc1 : (w.drewN nq).cell? ⟨b', 1, none⟩ = some (.slice (some ⟨bb', 0, none⟩) o.n cap') := h1'
        have SM := Lib.hid (same68 (W.out k hlt) (W'.out k hlo))
        have hstep : alikeFrom g o (g.n - k) k = if key (g.bs k) = key (o.bs k) then alikeFrom g o (g.n - (k + 1)) (k + 1) else false := by
          rw [show g.n - k = (g.n - (k + 1)) + 1 from by omega]; rfl
        by_cases hke : key (g.bs k) = key (o.bs k)
        · have HS := Lib.hid (hstep.trans (if_pos hke))
          have kb : (key (g.bs k) == key (o.bs k)) = true := by simpa using hke
          clear hstep hke
          generalize (key (g.bs k) == key (o.bs k)) = r at *
          subst kb
          go_wp2_with (go_at_call 68; refine (SM.out _).mono ?_; rintro e w' ⟨rfl, rfl⟩)
          go_round
          case rel =>
            exact ⟨k + 1, by omega, by go_num, HQ.out.trans HS.out⟩
          case measure => simp [intOf]; omega
        · have HS := Lib.hid (hstep.trans (if_neg hke))
          have kb : (key (g.bs k) == key (o.bs k)) = false := by simpa using hke
          clear hstep hke
          generalize (key (g.bs k) == key (o.bs k)) = r at *
          subst kb
          go_wp2_with (go_at_call 68; refine (SM.out _).mono ?_; rintro e w' ⟨rfl, rfl⟩)
          go_ret
          exact ⟨by rw [H.out, HQ.out, HS.out]; rfl, _, rfl⟩
      · have hkn : k = g.n := by omega
        have HS : Hid (alikeFrom g o (g.n - k) k = true) := Lib.hid (by rw [hkn, Nat.sub_self]; rfl)
        clear hkn
        go_wp2_with fail
        go_ret
        exact ⟨by rw [H.out, HQ.out, HS.out]; rfl, _, rfl⟩
  · have H : Hid (alike g o = false) := Lib.hid (if_neg hn)
    have hni : ((g.n : Int) != (o.n : Int)) = true := by simp; omega
    clear hn
    go_enter Try.func57, Try.ntmps57
    go_wp2_with fail
    go_quiet (fail)
    go_wp2_with fail
    go_ret
    exact ⟨by rw [H.out]; rfl, _, rfl⟩
end Go.Proofs.Ytofjgnlolmaidaa
