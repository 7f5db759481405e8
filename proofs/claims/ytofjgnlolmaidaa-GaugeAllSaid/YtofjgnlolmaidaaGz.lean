/- The walk through GaugeCells. -/
import Derived.Test.YtofjgnlolmaidaaGy
namespace Go.Proofs.Ytofjgnlolmaidaa
set_option linter.unusedVariables false
open Go.RowKit
attribute [local go_sem] run_store_float

theorem sumC_bound {f : Nat → Int} {n : Nat} {B : Int} (h0 : ∀ i, i ≤ n → 0 ≤ f i) (h1 : ∀ i, i ≤ n → f i ≤ B) : ∀ t : Nat, t ≤ n + 1 → 0 ≤ sumC f t ∧ sumC f t ≤ t * B
  | 0, _ => ⟨Int.le_refl _, by simp [sumC]⟩
  | t + 1, ht => by
    have ih := sumC_bound h0 h1 t (by omega)
    have a := h0 t (by omega)
    have b := h1 t (by omega)
    simp only [sumC]
    rw [show (((t + 1 : Nat) : Int)) * B = t * B + B by rw [Int.natCast_add, Int.add_mul]; simp]
    omega

theorem qFrom_lt {g : Gau} {B : Int} (h : Sane g B) : ∀ d i (r : Int), i + d = g.n → qFrom g d i r < 18446744073709551616 := by
  intro d
  induction d with
  | zero => intro i r _; exact h.gr
  | succ d ih =>
    intro i r hi
    simp only [qFrom]
    split
    · exact h.wide i (by omega)
    · exact ih (i + 1) _ (by omega)
theorem quantile_lt {g : Gau} {B : Int} (h : Sane g B) (q : Nat) : (quantile g q).1 < 18446744073709551616 := by
  unfold quantile
  split
  · split
    · show (0 : Nat) < _; omega
    · exact qFrom_lt h _ _ _ (by omega)
  · show (0 : Nat) < _; omega
theorem cmp_le {a b : Nat} (h : a ≤ b) : cmpN a b ≤ 0 := by unfold cmpN; split; omega; split; omega; omega

/-- A list of floats that lies below a mark. -/
structure FltB (N : Nat) (w : World) (sl : Option Addr) (n cap : Nat) (f : Nat → Nat) : Prop where
  cel : ∀ i, i < n → ∃ b off, sl = some ⟨b, off, none⟩ ∧ b < N ∧ w.cell? ⟨b, off + i, none⟩ = some (.float .f64 (f i))
  nil : sl = none → n = 0 ∧ cap = 0
theorem FltB.chg {N : Nat} {w w' : World} {sl : Option Addr} {n cap : Nat} {f : Nat → Nat} {s : List Nat} (h : FltB N w sl n cap f) (hc : Chg s w w') (hN : N ≤ w.heap.size) (hs : ∀ x ∈ s, N ≤ x) : FltB N w' sl n cap f :=
  ⟨fun i hi => by
    obtain ⟨b, off, h1, h2, h3⟩ := h.cel i hi
    exact ⟨b, off, h1, h2, (hc.cell (p := ⟨b, off + i, none⟩) (by show b < _; omega) (fun hm => by have := hs _ hm; simp at this; omega)).trans h3⟩, h.nil⟩

/-- Three gauges and two lists, apart. -/
structure Three (N N2 N3 N4 b1 c1 d1 b2 c2 d2 b3 c3 d3 : Nat) (sx : Option Addr) (lx cx : Nat) (x : Nat → Nat) (sy : Option Addr) (ly cy : Nat) (y : Nat → Nat) (w0 : World) (w : World) (g h a : Gau) : Prop where
  g1 : GaugeAt w b1 c1 d1 g
  g2 : GaugeAt w b2 c2 d2 h
  g3 : GaugeAt w b3 c3 d3 a
  fx : FltB N w sx lx cx x
  fy : FltB N w sy ly cy y
  lo : w0.heap.size ≤ N
  be : Below w0.heap.size w0 w
  sz : N4 ≤ w.heap.size
  r1 : N ≤ b1 ∧ b1 < N2 ∧ N ≤ c1 ∧ c1 < N2 ∧ N ≤ d1 ∧ d1 < N2
  r2 : N2 ≤ b2 ∧ b2 < N3 ∧ N2 ≤ c2 ∧ c2 < N3 ∧ N2 ≤ d2 ∧ d2 < N3
  r3 : N3 ≤ b3 ∧ b3 < N4 ∧ N3 ≤ c3 ∧ c3 < N4 ∧ N3 ≤ d3 ∧ d3 < N4

section
variable {N N2 N3 N4 b1 c1 d1 b2 c2 d2 b3 c3 d3 : Nat} {sx : Option Addr} {lx cx : Nat} {x : Nat → Nat} {sy : Option Addr} {ly cy : Nat} {y : Nat → Nat} {w0 w w' : World} {g h a g' : Gau}
theorem Three.to1 (t : Three N N2 N3 N4 b1 c1 d1 b2 c2 d2 b3 c3 d3 sx lx cx x sy ly cy y w0 w g h a) (hg : GaugeAt w' b1 c1 d1 g') (hc : Chg [b1, c1] w w') : Three N N2 N3 N4 b1 c1 d1 b2 c2 d2 b3 c3 d3 sx lx cx x sy ly cy y w0 w' g' h a := by
  obtain ⟨g1, g2, g3, fx, fy, lo, be, sz, r1, r2, r3⟩ := t
  have q := be.size
  refine ⟨hg, g2.chg hc (by simp; omega) (by simp; omega) (by simp; omega), g3.chg hc (by simp; omega) (by simp; omega) (by simp; omega),
    fx.chg hc (by omega) (by simp; omega), fy.chg hc (by omega) (by simp; omega), lo, be.trans (hc.below q (by simp; omega)), Nat.le_trans sz hc.size, r1, r2, r3⟩
theorem Three.to2 (t : Three N N2 N3 N4 b1 c1 d1 b2 c2 d2 b3 c3 d3 sx lx cx x sy ly cy y w0 w g h a) (hg : GaugeAt w' b2 c2 d2 g') (hc : Chg [b2, c2] w w') : Three N N2 N3 N4 b1 c1 d1 b2 c2 d2 b3 c3 d3 sx lx cx x sy ly cy y w0 w' g g' a := by
  obtain ⟨g1, g2, g3, fx, fy, lo, be, sz, r1, r2, r3⟩ := t
  have q := be.size
  refine ⟨g1.chg hc (by simp; omega) (by simp; omega) (by simp; omega), hg, g3.chg hc (by simp; omega) (by simp; omega) (by simp; omega),
    fx.chg hc (by omega) (by simp; omega), fy.chg hc (by omega) (by simp; omega), lo, be.trans (hc.below q (by simp; omega)), Nat.le_trans sz hc.size, r1, r2, r3⟩
theorem Three.to3 (t : Three N N2 N3 N4 b1 c1 d1 b2 c2 d2 b3 c3 d3 sx lx cx x sy ly cy y w0 w g h a) (hg : GaugeAt w' b3 c3 d3 g') (hc : Chg [b3, c3] w w') : Three N N2 N3 N4 b1 c1 d1 b2 c2 d2 b3 c3 d3 sx lx cx x sy ly cy y w0 w' g h g' := by
  obtain ⟨g1, g2, g3, fx, fy, lo, be, sz, r1, r2, r3⟩ := t
  have q := be.size
  refine ⟨g1.chg hc (by simp; omega) (by simp; omega) (by simp; omega), g2.chg hc (by simp; omega) (by simp; omega) (by simp; omega), hg,
    fx.chg hc (by omega) (by simp; omega), fy.chg hc (by omega) (by simp; omega), lo, be.trans (hc.below q (by simp; omega)), Nat.le_trans sz hc.size, r1, r2, r3⟩
end

theorem arg_below {w w' : World} {s : Option Addr} {n : Nat} {z : Nat → Int} (h : ∀ i, i < n → ∃ b off, s = some ⟨b, off, none⟩ ∧ b < w.heap.size ∧ w.cell? ⟨b, off + i, none⟩ = some (.int .u64 (z i))) (hb : Below w.heap.size w w') :
    ∀ i, i < n → ∃ b off, s = some ⟨b, off, none⟩ ∧ b < w'.heap.size ∧ w'.cell? ⟨b, off + i, none⟩ = some (.int .u64 (z i)) := by
  intro i hi
  obtain ⟨b, off, e1, e2, e3⟩ := h i hi
  exact ⟨b, off, e1, Nat.lt_of_lt_of_le e2 hb.size, (hb.cell (p := ⟨b, off + i, none⟩) e2).trans e3⟩
theorem FltAt.toB {w w' : World} {sl : Option Addr} {n cap : Nat} {f : Nat → Nat} (h : FltAt w sl n cap f) (hb : Below w.heap.size w w') : FltB w.heap.size w' sl n cap f :=
  ⟨fun i hi => by
    obtain ⟨b, off, h1, h2, h3⟩ := h.cel i hi
    exact ⟨b, off, h1, h2, (hb.cell (p := ⟨b, off + i, none⟩) h2).trans h3⟩, h.nil⟩

set_option maxRecDepth 100000 in
set_option maxHeartbeats 4000000 in
theorem gcells_walk (s0 : Option Addr) (l0 p0 : Nat) (z0 : Nat → Int) (s1 : Option Addr) (l1 p1 : Nat) (z1 : Nat → Int) (s2 : Option Addr) (l2 p2 : Nat) (z2 : Nat → Int) (u v : Int) (w : World)
    (h0 : l0 * 8 ≤ 140737488351232) (h1 : l1 * 8 ≤ 140737488351232) (h2 : l2 * 8 ≤ 140737488351232) (k0 : ∀ i, (z0 i).toNat < 18446744073709551616) (k1 : ∀ i, (z1 i).toNat < 18446744073709551616) (k2 : ∀ i, (z2 i).toNat < 18446744073709551616)
    (ku : u.toNat < 18446744073709551616) (kv : v.toNat < 18446744073709551616)
    (c0 : ∀ i, i < l0 → ∃ b off, s0 = some ⟨b, off, none⟩ ∧ b < w.heap.size ∧ w.cell? ⟨b, off + i, none⟩ = some (.int .u64 (z0 i)))
    (c1 : ∀ i, i < l1 → ∃ b off, s1 = some ⟨b, off, none⟩ ∧ b < w.heap.size ∧ w.cell? ⟨b, off + i, none⟩ = some (.int .u64 (z1 i)))
    (c2 : ∀ i, i < l2 → ∃ b off, s2 = some ⟨b, off, none⟩ ∧ b < w.heap.size ∧ w.cell? ⟨b, off + i, none⟩ = some (.int .u64 (z2 i))) :
    Calls Try.prog 9 #[.slice s0 l0 p0, .slice s1 l1 p1, .slice s2 l2 p2, .int .u64 u, .int .u64 v] w fun e w' => e = .returned (.bool true) ∧ Below w.heap.size w w' := by
  have C0 := Lib.hid c0; have C1 := Lib.hid c1; have C2 := Lib.hid c2
  have K0 := Lib.hid k0; have K1 := Lib.hid k1; have K2 := Lib.hid k2
  have KU := Lib.hid ku; have KV := Lib.hid kv
  clear c0 c1 c2 k0 k1 k2 ku kv
  go_enter Try.func9, Try.ntmps9
  go_wp2_with fail
  refine (begun24 _).mono ?_
  rintro e w1 ⟨rfl, hb1⟩
  by_cases hz : 300 < l1 ∨ 300 < l2
  · have hz' : 300 < l1 ∨ (¬ 300 < l1 ∧ 300 < l2) := by omega
    clear hz
    rcases hz' with hz | ⟨hz, hz2⟩
    · have hzi : (300 : Int) < (l1 : Int) := by omega
      go_wp2_with fail
      go_ret
      exact ⟨rfl, hb1⟩
    · have hzi : ¬ (300 : Int) < (l1 : Int) := by omega
      have hzj : (300 : Int) < (l2 : Int) := by omega
      go_wp2_with fail
      go_ret
      exact ⟨rfl, hb1⟩
  · have hzi : ¬ (300 : Int) < (l1 : Int) := by omega
    have hzj : ¬ (300 : Int) < (l2 : Int) := by omega
    have hcond : (decide ((300 : Int) < (l1 : Int)) || decide ((300 : Int) < (l2 : Int))) = false := by simp; omega
    have m1 : l1 ≤ 300 := by omega
    have m2 : l2 ≤ 300 := by omega
    clear hz
    go_wp2_with fail
    refine (of31 s0 l0 p0 z0 w1 h0 (arg_below C0.out hb1)).mono ?_
    rintro e w2 ⟨sb, cb, rfl, fb, hb2⟩
    have hB2 := hb1.trans (hb2.mono hb1.size)
    clear hb1
    go_wp2_with fail
    refine (of31 s1 l1 p1 z1 w2 h1 (arg_below C1.out hB2)).mono ?_
    rintro e w3 ⟨sx, cx, rfl, fx, hb3⟩
    have hB3 := hB2.trans (hb3.mono hB2.size)
    have fb := fb.below hb3 (Nat.le_refl _)
    go_wp2_with fail
    refine (of31 s2 l2 p2 z2 w3 h2 (arg_below C2.out hB3)).mono ?_
    rintro e w4 ⟨sy, cy, rfl, fy, hb4⟩
    have hB4 := hB3.trans (hb4.mono hB3.size)
    have fb := Lib.hid (fb.below hb4 (Nat.le_refl _))
    have fx := Lib.hid (fx.below hb4 (Nat.le_refl _))
    have fy := Lib.hid fy
    clear hb2 hb3 hb4 hB2 hB3
    by_cases hmany : 64 < l0
    · go_wp2_with fail
      refine (new28_many sb l0 cb hmany (by omega) w4).mono ?_
      rintro e w' ⟨rfl, rfl⟩
      go_wp2_with fail
      go_ret
      exact ⟨rfl, hB4⟩
    · have N1 := Lib.hid (new28 sb l0 cb (fun i => (z0 i).toNat) (by omega) w4 (fun i _ => K0.out i) fb.out.cel fb.out.nil)
      go_wp2_with fail
      refine N1.out.mono ?_
      clear N1
      rintro e w5 (⟨hfit, b1, q1, d1, rfl, hg1, lb1, lc1, ld1, hb5⟩ | ⟨hnf, rfl, rfl⟩)
      · have fb5 := Lib.hid (fb.out.below hb5 (Nat.le_refl _))
        have N2 := Lib.hid (new28 sb l0 cb (fun i => (z0 i).toNat) (by omega) w5 (fun i _ => K0.out i) fb5.out.cel fb5.out.nil)
        go_wp2_with fail
        refine N2.out.mono ?_
        clear N2
        rintro e w6 (⟨_, b2, q2, d2, rfl, hg2, lb2, lc2, ld2, hb6⟩ | ⟨hnf, rfl, rfl⟩)
        · have fb6 := Lib.hid (fb5.out.below hb6 (Nat.le_refl _))
          have N3 := Lib.hid (new28 sb l0 cb (fun i => (z0 i).toNat) (by omega) w6 (fun i _ => K0.out i) fb6.out.cel fb6.out.nil)
          go_wp2_with fail
          refine N3.out.mono ?_
          clear N3 fb5 fb6
          rintro e w7 (⟨_, b3, q3, d3, rfl, hg3, lb3, lc3, ld3, hb7⟩ | ⟨hnf, rfl, rfl⟩)
          · have hb67 := hb6.trans (hb7.mono hb6.size)
            have hb47 := hb5.trans (hb67.mono hb5.size)
            have x1 := hg1.lb; have x2 := hg1.lc; have x3 := hg1.lbb
            have x4 := hg2.lb; have x5 := hg2.lc; have x6 := hg2.lbb
            have x7 := hg3.lb; have x8 := hg3.lc; have x9 := hg3.lbb
            have T0 : Three w4.heap.size w5.heap.size w6.heap.size w7.heap.size b1 q1 d1 b2 q2 d2 b3 q3 d3 sx l1 cx (fun i => (z1 i).toNat) sy l2 cy (fun i => (z2 i).toNat) w w7 (gau0 l0 fun i => (z0 i).toNat) (gau0 l0 fun i => (z0 i).toNat) (gau0 l0 fun i => (z0 i).toNat) :=
              ⟨hg1.chg (Chg.of_below hb67 []) (by simp) (by simp) (by simp), hg2.chg (Chg.of_below hb7 []) (by simp) (by simp) (by simp), hg3,
                fx.out.toB hb47, fy.out.toB hb47, hB4.size, hB4.trans (hb47.mono hB4.size), Nat.le_refl _, ⟨lb1, x1, lc1, x2, ld1, x3⟩, ⟨lb2, x4, lc2, x5, ld2, x6⟩, ⟨lb3, x7, lc3, x8, ld3, x9⟩⟩
            have S0 : Sane (gau0 l0 fun i => (z0 i).toNat) 0 := sane0 hfit (fun i _ => K0.out i) (by omega)
            have O0 := told0 l0 (fun i => (z0 i).toNat)
            clear hb5 hb6 hb7 hb67 hb47 x1 x2 x3 x4 x5 x6 x7 x8 x9 hg1 hg2 hg3 lb1 lc1 ld1 lb2 lc2 ld2 lb3 lc3 ld3 hB4 fx fy fb
            generalize w4.heap.size = M1 at *
            generalize w5.heap.size = M2 at *
            generalize w6.heap.size = M3 at *
            generalize w7.heap.size = M4 at *
            generalize hG0 : (gau0 l0 fun i => (z0 i).toNat) = G0 at *
            have T0 := Lib.hid T0
            have S0 := Lib.hid S0
            have O0 := Lib.hid O0
            have FIT := Lib.hid hfit
            clear hG0 hfit
            go_wp2_with fail
            go_loopw [20] (fun i wr => ∃ k : Nat, k ≤ l1 ∧ i = .int .i64 k ∧ Three M1 M2 M3 M4 b1 q1 d1 b2 q2 d2 b3 q3 d3 sx l1 cx (fun i => (z1 i).toNat) sy l2 cy (fun i => (z2 i).toNat) w wr (pn G0 (fun i => (z1 i).toNat) k) G0 G0) (fun i _ => l1 - (intOf i).toNat)
            case atStart => exact ⟨0, Nat.zero_le _, rfl, T0.out⟩
            case round =>
              obtain ⟨k, hk, rfl, hT⟩ := hrel
              by_cases hlt : k < l1
              · obtain ⟨cb, off, rfl, hbw, hcell⟩ := hT.fx.cel k hlt
                have PT := Lib.hid (put29 hT.g1 (pn_sane S0.out K1.out k) (by omega) (K1.out k))
                have HT := Lib.hid hT
                clear hT
                go_wp2_with fail
                refine PT.out.mono ?_
                rintro e w8 ⟨rfl, hg8, hc8⟩
                have HT := Lib.hid (HT.out.to1 hg8 hc8)
                clear hg8 hc8 PT
                go_wp2_with fail
                go_roundw
                case rel => exact ⟨k + 1, by omega, by go_num, HT.out⟩
                case measure => simp [intOf]; omega
              · have hkl : k = l1 := by omega
                subst hkl
                have T1 := Lib.hid hT
                clear hT T0 hlt hk
                go_wp2_with fail
                go_loopw [21] (fun i wr => ∃ k2 : Nat, k2 ≤ l2 ∧ i = .int .i64 k2 ∧ Three M1 M2 M3 M4 b1 q1 d1 b2 q2 d2 b3 q3 d3 sx k cx (fun i => (z1 i).toNat) sy l2 cy (fun i => (z2 i).toNat) w wr (pn G0 (fun i => (z1 i).toNat) k) (pn G0 (fun i => (z2 i).toNat) k2) G0) (fun i _ => l2 - (intOf i).toNat)
                case atStart => exact ⟨0, Nat.zero_le _, rfl, T1.out⟩
                case round =>
                  obtain ⟨k2, hk2, rfl, hT⟩ := hrel
                  by_cases hlt : k2 < l2
                  · obtain ⟨cb, off, rfl, hbw, hcell⟩ := hT.fy.cel k2 hlt
                    have PT := Lib.hid (put29 hT.g2 (pn_sane S0.out K2.out k2) (by omega) (K2.out k2))
                    have HT := Lib.hid hT
                    clear hT T1
                    go_wp2_with fail
                    refine PT.out.mono ?_
                    rintro e w8 ⟨rfl, hg8, hc8⟩
                    have HT := Lib.hid (HT.out.to2 hg8 hc8)
                    clear hg8 hc8 PT
                    go_wp2_with fail
                    go_roundw
                    case rel => exact ⟨k2 + 1, by omega, by go_num, HT.out⟩
                    case measure => simp [intOf]; omega
                  · have hkl : k2 = l2 := by omega
                    subst hkl
                    have T2 := Lib.hid hT
                    clear hT T1 hlt hk2
                    go_wp2_with fail
                    go_loopw [22] (fun i wr => ∃ j : Nat, j ≤ k2 ∧ i = .int .i64 ((j : Int) - 1) ∧ Three M1 M2 M3 M4 b1 q1 d1 b2 q2 d2 b3 q3 d3 sx k cx (fun i => (z1 i).toNat) sy k2 cy (fun i => (z2 i).toNat) w wr (pn G0 (fun i => (z1 i).toNat) k) (pn G0 (fun i => (z2 i).toNat) k2) (pn G0 (fun t => (z2 (k2 - 1 - t)).toNat) (k2 - j))) (fun i _ => (intOf i + 1).toNat)
                    case atStart => exact ⟨k2, Nat.le_refl _, by go_num, by rw [Nat.sub_self]; exact T2.out⟩
                    case round =>
                      obtain ⟨j, hj, rfl, hT⟩ := hrel
                      by_cases hlt : j = 0
                      · subst hlt
                        rw [show (((0 : Nat) : Int) - 1) = -1 from rfl]
                        have T3 := Lib.hid hT
                        clear hT T2 hj
                        rw [Nat.sub_zero] at T3
                        go_wp2_with fail
                        generalize hA1 : pn G0 (fun t => (z2 (k2 - 1 - t)).toNat) k2 = A1 at T3
                        have SA1 : Sane A1 (0 + (k2 : Int)) := by rw [← hA1]; exact pn_sane S0.out (fun t => K2.out (k2 - 1 - t)) k2
                        have SA1 := Lib.hid SA1
                        have HA1 := Lib.hid hA1
                        clear hA1
                        go_loopw [23] (fun i wr => ∃ j : Nat, j ≤ k ∧ i = .int .i64 ((j : Int) - 1) ∧ Three M1 M2 M3 M4 b1 q1 d1 b2 q2 d2 b3 q3 d3 sx k cx (fun i => (z1 i).toNat) sy k2 cy (fun i => (z2 i).toNat) w wr (pn G0 (fun i => (z1 i).toNat) k) (pn G0 (fun i => (z2 i).toNat) k2) (pn A1 (fun t => (z1 (k - 1 - t)).toNat) (k - j))) (fun i _ => (intOf i + 1).toNat)
                        case atStart => exact ⟨k, Nat.le_refl _, by go_num, by rw [Nat.sub_self]; exact T3.out⟩
                        case round =>
                          obtain ⟨j, hj, rfl, hT⟩ := hrel
                          by_cases hlt : j = 0
                          · subst hlt
                            rw [show (((0 : Nat) : Int) - 1) = -1 from rfl]
                            have T4 := Lib.hid hT
                            clear hT T3 hj
                            rw [Nat.sub_zero] at T4
                            generalize hGX : pn G0 (fun i => (z1 i).toNat) k = GX at T4
                            generalize hGY : pn G0 (fun i => (z2 i).toNat) k2 = GY at T4
                            generalize hGA : pn A1 (fun t => (z1 (k - 1 - t)).toNat) k = GA at T4
                            have SX := pn_sane S0.out K1.out k
                            have SY := pn_sane S0.out K2.out k2
                            have SA := pn_sane SA1.out (fun t => K1.out (k - 1 - t)) k
                            rw [hGX] at SX
                            rw [hGY] at SY
                            rw [hGA] at SA
                            obtain ⟨al, nx, ny, na, e1, e2, e3, e4, e5, ⟨L, TL⟩, hlen⟩ := cells_law O0.out (fun i => (z1 i).toNat) (fun i => (z2 i).toNat) K1.out K2.out k k2 GX GY GA hGX.symm hGY.symm (by rw [← hGA, ← HA1.out])
                            have SX' := Sane.mono SX (show 0 + (k : Int) ≤ 700 from by omega)
                            have SY' := Sane.mono SY (show 0 + (k2 : Int) ≤ 700 from by omega)
                            have SM := Lib.hid (SX'.merge SY' (nx.trans ny.symm))
                            have MG := Lib.hid (merge35_yes T4.out.g1 T4.out.g2 SX' SY' (by omega) al)
                            clear hGX hGY hGA SX SY HA1 SA1 K1 K2 SX' SY' al
                            have E1 := Lib.hid e1; have E2 := Lib.hid e2; have E3 := Lib.hid e3; have E4 := Lib.hid e4; have E5 := Lib.hid e5
                            have TL := Lib.hid TL; have HL := Lib.hid hlen
                            have SA := Lib.hid SA
                            have NX := Lib.hid nx; have NY := Lib.hid ny; have NA := Lib.hid na
                            clear e1 e2 e3 e4 e5 hlen nx ny na
                            go_wp2_with fail
                            refine MG.out.mono ?_
                            rintro e w8 ⟨rfl, hg8, hc8⟩
                            have T5 := T4.out.to1 hg8 hc8
                            clear hg8 hc8 MG T4
                            have hn5 : (merge GX GY).n = GX.n := rfl
                            generalize merge GX GY = GM at *
                            have hnn : Hid (GM.n = l0) := Lib.hid (hn5.trans NX.out)
                            clear hn5
                            have h64 : l0 ≤ 64 := by omega
                            have C1 := Lib.hid (cells38 T5.g1 (by rw [hnn.out]; exact h64))
                            go_wp2_with fail
                            (with_reducible refine C1.out.mono ?_)
                            rintro e w9 ⟨da, ca, rfl, ia, lda, hb9⟩
                            rw [hnn.out]
                            clear C1
                            have T6 := T5.to1 (T5.g1.chg (Chg.of_below hb9 []) (by simp) (by simp) (by simp)) (Chg.of_below hb9 _)
                            have C2 := Lib.hid (cells38 T6.g3 (by rw [NA.out]; exact h64))
                            have ia := Lib.hid ia
                            clear hb9 T5
                            go_wp2_with fail
                            (with_reducible refine C2.out.mono ?_)
                            rintro e w10 ⟨db, cb2, rfl, ib, ldb, hb10⟩
                            clear C2
                            have T7 := T6.to1 (T6.g1.chg (Chg.of_below hb10 []) (by simp) (by simp) (by simp)) (Chg.of_below hb10 _)
                            have ia2 : IntsAt w10 da (l0 + 1) GA.cs := by
                              have h := ia.out
                              rw [hnn.out, E1.out] at h
                              exact ⟨fun i hi => (hb10.cell (p := ⟨da, i, none⟩) h.lt).trans (h.cel i hi), fun o => (hb10.frozen (p := ⟨da, o, none⟩) h.lt).trans (h.fz o), Nat.lt_of_lt_of_le h.lt hb10.size⟩
                            have ib2 : IntsAt w10 db (l0 + 1) GA.cs := by rw [NA.out] at ib; exact ib
                            rw [NA.out]
                            have D := Lib.hid (cells37 (cap := ca) (cap' := cb2) ia2 ib2 (by omega))
                            clear ia ib ia2 ib2 hb10 T6 lda ldb
                            go_wp2_with fail
                            (with_reducible refine D.out.mono ?_)
                            rintro e w11 ⟨rfl, hd⟩
                            clear D
                            have hc11 : Chg [] w10 w11 := by obtain ⟨nd, rfl⟩ := hd; exact (Chg.refl [] w10).drewN nd
                            have T8 := T7.to1 (T7.g1.chg hc11 (by simp) (by simp) (by simp)) (hc11.mono (by simp))
                            clear hc11 hd T7
                            have L1 := Lib.hid (look39 T8.g1)
                            go_wp2_with fail
                            (with_reducible refine L1.out.mono ?_)
                            rintro e w12 ⟨rfl, hb12⟩
                            have T9 := T8.to1 (T8.g1.chg (Chg.of_below hb12 []) (by simp) (by simp) (by simp)) (Chg.of_below hb12 _)
                            clear L1 hb12 T8
                            have L2 := Lib.hid (look39 T9.g3)
                            go_wp2_with fail
                            (with_reducible refine L2.out.mono ?_)
                            rintro e w13 ⟨rfl, hb13⟩
                            have T10 := Lib.hid (T9.to1 (T9.g1.chg (Chg.of_below hb13 []) (by simp) (by simp) (by simp)) (Chg.of_below hb13 _))
                            clear L2 hb13 T9
                            rw [E2.out, E3.out, E4.out, E5.out]
                            go_upto_region 31 with (fail)
                            have hB14 := ((Below.refl w13.heap.size w13).alloc (Nat.le_refl _) (.cells #[.int .i64 GA.count, .int .i64 GA.nans, .float .f64 GA.least, .float .f64 GA.greatest, .float .f64 GM.mean] 76)).alloc (by simp) (.cells #[.int .i64 GA.count, .int .i64 GA.nans, .float .f64 GA.least, .float .f64 GA.greatest, .float .f64 GA.mean] 76)
                            have T11 := T10.out.to1 (T10.out.g1.chg (Chg.of_below hB14 []) (by simp) (by simp) (by simp)) (Chg.of_below hB14 _)
                            have kA := fun i => (cell_old (w13.alloc (.cells #[.int .i64 GA.count, .int .i64 GA.nans, .float .f64 GA.least, .float .f64 GA.greatest, .float .f64 GM.mean] 76)) (.cells #[.int .i64 GA.count, .int .i64 GA.nans, .float .f64 GA.least, .float .f64 GA.greatest, .float .f64 GA.mean] 76) w13.heap.size i (by simp)).trans (cell_new w13 #[.int .i64 GA.count, .int .i64 GA.nans, .float .f64 GA.least, .float .f64 GA.greatest, .float .f64 GM.mean] 76 w13.heap.size i rfl)
                            have kB := fun i => cell_new (w13.alloc (.cells #[.int .i64 GA.count, .int .i64 GA.nans, .float .f64 GA.least, .float .f64 GA.greatest, .float .f64 GM.mean] 76)) #[.int .i64 GA.count, .int .i64 GA.nans, .float .f64 GA.least, .float .f64 GA.greatest, .float .f64 GA.mean] 76 (w13.heap.size + 1) i (by simp)
                            have a0 := kA 0; have a1 := kA 1; have a2 := kA 2; have a3 := kA 3
                            have b0 := kB 0; have b1' := kB 1; have b2' := kB 2; have b3' := kB 3
                            have hsz : w13.heap.size + 1 < ((w13.alloc (.cells #[.int .i64 GA.count, .int .i64 GA.nans, .float .f64 GA.least, .float .f64 GA.greatest, .float .f64 GM.mean] 76)).alloc (.cells #[.int .i64 GA.count, .int .i64 GA.nans, .float .f64 GA.least, .float .f64 GA.greatest, .float .f64 GA.mean] 76)).heap.size := by simp
                            clear kA kB hB14 T10
                            generalize (w13.alloc (.cells #[.int .i64 GA.count, .int .i64 GA.nans, .float .f64 GA.least, .float .f64 GA.greatest, .float .f64 GM.mean] 76)).alloc (.cells #[.int .i64 GA.count, .int .i64 GA.nans, .float .f64 GA.least, .float .f64 GA.greatest, .float .f64 GA.mean] 76) = w14 at *
                            simp only [List.getElem?_toArray, List.getElem?_cons_zero, List.getElem?_cons_succ] at a0 a1 a2 a3 b0 b1' b2' b3'
                            have C3 := Lib.hid (cells38 T11.g1 (by rw [hnn.out]; exact h64))
                            go_wp2_with fail
                            (with_reducible refine C3.out.mono ?_)
                            rintro e w15 ⟨dc, cc, rfl, ic, ldc, hb15⟩
                            clear C3
                            rw [hnn.out, E1.out] at ic
                            rw [hnn.out]
                            have T12 := Lib.hid (T11.to1 (T11.g1.chg (Chg.of_below hb15 []) (by simp) (by simp) (by simp)) (Chg.of_below hb15 _))
                            have a0 := (hb15.cell (p := ⟨w13.heap.size, 0, none⟩) (by show w13.heap.size < _; omega)).trans a0
                            have a1 := (hb15.cell (p := ⟨w13.heap.size, 1, none⟩) (by show w13.heap.size < _; omega)).trans a1
                            have a2 := (hb15.cell (p := ⟨w13.heap.size, 2, none⟩) (by show w13.heap.size < _; omega)).trans a2
                            have a3 := (hb15.cell (p := ⟨w13.heap.size, 3, none⟩) (by show w13.heap.size < _; omega)).trans a3
                            have b0 := (hb15.cell (p := ⟨w13.heap.size + 1, 0, none⟩) hsz).trans b0
                            have b1' := (hb15.cell (p := ⟨w13.heap.size + 1, 1, none⟩) hsz).trans b1'
                            have b2' := (hb15.cell (p := ⟨w13.heap.size + 1, 2, none⟩) hsz).trans b2'
                            have b3' := (hb15.cell (p := ⟨w13.heap.size + 1, 3, none⟩) hsz).trans b3'
                            generalize w13.heap.size = D1 at *
                            have IC := Lib.hid ic
                            have SB := Lib.hid (sumC_bound (f := GA.cs) (n := l0) (B := 1400) (fun i hi => by have := SM.out.s0 i (by rw [hnn.out]; exact hi); rwa [E1.out] at this) (fun i hi => by have := SM.out.s1 i (by rw [hnn.out]; exact hi); rwa [E1.out] at this))
                            have SC : Hid (sumC GA.cs (l0 + 1) = GA.count) := Lib.hid (by have := sum_count TL.out; rw [E1.out, E2.out] at this; exact this)
                            clear T11 hb15 ic ldc hsz
                            have SA := Lib.hid (fun i (hi : i ≤ l0) => (⟨by have := SM.out.s0 i (by rw [hnn.out]; exact hi); rwa [E1.out] at this, by have := SM.out.s1 i (by rw [hnn.out]; exact hi); rwa [E1.out] at this⟩ : 0 ≤ GA.cs i ∧ GA.cs i ≤ 700 + 700))
                            go_wp2_with fail
                            go_loop [26, 28] (fun nn i => ∃ t : Nat, t ≤ l0 + 1 ∧ i = .int .i64 t ∧ nn = .int .i64 (sumC GA.cs t)) (fun _ i => l0 + 1 - (intOf i).toNat)
                            case atStart => exact ⟨0, Nat.zero_le _, rfl, rfl⟩
                            case round =>
                              obtain ⟨t, ht, rfl, rfl⟩ := hrel
                              by_cases hlt : t < l0 + 1
                              · have hc := IC.out.cel t hlt
                                obtain ⟨y1, y2⟩ := SB.out t ht
                                obtain ⟨y3, y4⟩ := SA.out t (by omega)
                                go_wp2_with fail
                                go_round
                                case rel => exact ⟨t + 1, by omega, by go_num, rfl⟩
                                case measure => simp [intOf]; omega
                              · have htl : t = l0 + 1 := by omega
                                subst htl
                                rw [SC.out]
                                clear SB SA IC hlt ht
                                have hsum : GA.count + GA.nans = (k : Int) + (k2 : Int) := by have := HL.out; rw [E2.out, E3.out] at this; exact this
                                have q0 := SM.out.c0
                                have q1 := SM.out.c1
                                have q2 := SM.out.n0
                                have q3 := SM.out.n1
                                rw [E2.out] at q0 q1
                                rw [E3.out] at q2 q3
                                have hne : (GA.count + GA.nans != (k : Int) + (k2 : Int)) = false := by rw [hsum]; simp
                                have e19 := ext19
                                have HS := Lib.hid hsum
                                clear hsum
                                go_upto_region 38 with (go_at_call 22; refine (bits22 _ _).mono ?_; rintro e w' ⟨rfl, rfl⟩)
                                clear a0 a1 a2 a3 b0 b1' b2' b3' hne
                                cases hp : (Fl.ord u.toNat 0 == some .gt || Fl.ord u.toNat 0 == some .eq)
                                · go_wp2_with fail
                                  go_ret
                                  exact ⟨rfl, T12.out.be⟩
                                cases hpq : (Fl.ord v.toNat u.toNat == some .gt || Fl.ord v.toNat u.toNat == some .eq)
                                · go_wp2_with fail
                                  go_ret
                                  exact ⟨rfl, T12.out.be⟩
                                cases hq : (Fl.ord v.toNat 4607182418800017408 == some .lt || Fl.ord v.toNat 4607182418800017408 == some .eq)
                                · go_wp2_with fail
                                  go_ret
                                  exact ⟨rfl, T12.out.be⟩
                                by_cases hz : GA.count = 0
                                · have hz' : (GA.count == 0) = true := by rw [hz]; rfl
                                  go_wp2_with fail
                                  go_ret
                                  exact ⟨rfl, T12.out.be⟩
                                · have hz' : (GA.count == 0) = false := by simpa using hz
                                  obtain ⟨x1, x2, x3⟩ := quantile_mono TL.out FIT.out KU.out KV.out (by rw [E2.out]; exact hz) (by rw [E2.out]; omega) hp hpq hq
                                  have Q1 := quantile30 u.toNat T12.out.g1 SM.out (by omega)
                                  have Q2 := quantile30 v.toNat T12.out.g1 SM.out (by omega)
                                  have CP := Lib.hid (compare40 (quantile_lt SM.out u.toNat) (quantile_lt SM.out v.toNat))
                                  have CL := cmp_le x3
                                  rw [x1] at Q1
                                  rw [x2] at Q2
                                  have Q1 := Lib.hid Q1
                                  have Q2 := Lib.hid Q2
                                  clear x1 x2 x3
                                  generalize cmpN (key (quantile GM u.toNat).1) (key (quantile GM v.toNat).1) = cm at *
                                  go_wp2_with (first
                                    | (go_at_call 30; (with_reducible refine Q1.out.mono ?_); rintro e w' ⟨rfl, rfl⟩)
                                    | (go_at_call 30; (with_reducible refine Q2.out.mono ?_); rintro e w' ⟨rfl, rfl⟩)
                                    | (go_at_call 40; (with_reducible refine (CP.out _).mono ?_); rintro e w' ⟨rfl, rfl⟩))
                                  go_ret
                                  exact ⟨rfl, T12.out.be⟩
                          · obtain ⟨i, rfl⟩ : ∃ i, j = i + 1 := ⟨j - 1, by omega⟩
                            have ei : ((i + 1 : Nat) : Int) - 1 = (i : Int) := by omega
                            rw [ei]
                            obtain ⟨cb, off, rfl, hbw, hcell⟩ := hT.fx.cel i (by omega)
                            have PT := put29 hT.g3 (pn_sane SA1.out (fun t => K1.out (k - 1 - t)) (k - (i + 1))) (by omega) (K1.out i)
                            have es : put (pn A1 (fun t => (z1 (k - 1 - t)).toNat) (k - (i + 1))) ((z1 i).toNat) = pn A1 (fun t => (z1 (k - 1 - t)).toNat) (k - i) := by
                              rw [show k - i = (k - (i + 1)) + 1 from by omega]
                              show _ = put _ _
                              congr 3
                              omega
                            rw [es] at PT
                            have PT := Lib.hid PT
                            have HT := Lib.hid hT
                            clear hT T3 es ei
                            go_wp2_with fail
                            refine PT.out.mono ?_
                            rintro e w8 ⟨rfl, hg8, hc8⟩
                            have HT := Lib.hid (HT.out.to3 hg8 hc8)
                            clear hg8 hc8 PT
                            go_wp2_with fail
                            go_roundw
                            case rel => exact ⟨i, by omega, by go_num, HT.out⟩
                            case measure => simp [intOf]
                      · obtain ⟨i, rfl⟩ : ∃ i, j = i + 1 := ⟨j - 1, by omega⟩
                        have ei : ((i + 1 : Nat) : Int) - 1 = (i : Int) := by omega
                        rw [ei]
                        obtain ⟨cb, off, rfl, hbw, hcell⟩ := hT.fy.cel i (by omega)
                        have PT := put29 hT.g3 (pn_sane S0.out (fun t => K2.out (k2 - 1 - t)) (k2 - (i + 1))) (by omega) (K2.out i)
                        have es : put (pn G0 (fun t => (z2 (k2 - 1 - t)).toNat) (k2 - (i + 1))) ((z2 i).toNat) = pn G0 (fun t => (z2 (k2 - 1 - t)).toNat) (k2 - i) := by
                          rw [show k2 - i = (k2 - (i + 1)) + 1 from by omega]
                          show _ = put _ _
                          congr 3
                          omega
                        rw [es] at PT
                        have PT := Lib.hid PT
                        have HT := Lib.hid hT
                        clear hT T2 es ei
                        go_wp2_with fail
                        refine PT.out.mono ?_
                        rintro e w8 ⟨rfl, hg8, hc8⟩
                        have HT := Lib.hid (HT.out.to3 hg8 hc8)
                        clear hg8 hc8 PT
                        go_wp2_with fail
                        go_roundw
                        case rel => exact ⟨i, by omega, by go_num, HT.out⟩
                        case measure => simp [intOf]
          · exact absurd hfit hnf
        · exact absurd hfit hnf
      · go_wp2_with fail
        go_ret
        exact ⟨rfl, hB4⟩
end Go.Proofs.Ytofjgnlolmaidaa
