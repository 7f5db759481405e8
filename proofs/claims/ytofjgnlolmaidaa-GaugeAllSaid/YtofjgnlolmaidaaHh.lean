/- What the walk through GaugeAll carries along. -/
import Derived.Test.YtofjgnlolmaidaaHb
import Derived.Test.YtofjgnlolmaidaaGz
namespace Go.Proofs.Ytofjgnlolmaidaa
set_option linter.unusedVariables false
open Go.RowKit

/-- The other gauge and the document's: they are, or both are nil. -/
def Oth (N M n : Nat) (bs : Nat → Nat) (code : Int) (vo vp : Value) (w : World) : Prop :=
  (code = 0 → ∃ bo co d bp cp dp, vo = .pointer (some ⟨bo, 0, none⟩) ∧ vp = .pointer (some ⟨bp, 0, none⟩) ∧ GaugeAt w bo co d (gau0 n bs) ∧ RefG w bp cp dp (gau0 n bs) ∧
    (N ≤ bo ∧ bo < M ∧ N ≤ co ∧ co < M ∧ N ≤ d ∧ d < M) ∧ (N ≤ bp ∧ bp < M ∧ N ≤ cp ∧ cp < M ∧ N ≤ dp ∧ dp < M)) ∧
  (code ≠ 0 → vo = .pointer none ∧ vp = .pointer none)

theorem Oth.chg {N M n : Nat} {bs : Nat → Nat} {code : Int} {vo vp : Value} {w w' : World} {s : List Nat} (h : Oth N M n bs code vo vp w) (hc : Chg s w w') (hs : ∀ x ∈ s, x < N ∨ M ≤ x) : Oth N M n bs code vo vp w' := by
  refine ⟨fun h0 => ?_, h.2⟩
  obtain ⟨bo, co, d, bp, cp, dp, e1, e2, h1, h2, r1, r2⟩ := h.1 h0
  have k : ∀ x, N ≤ x → x < M → x ∉ s := fun x h1 h2 hx => by have := hs x hx; omega
  exact ⟨bo, co, d, bp, cp, dp, e1, e2, h1.chg hc (k _ r1.1 r1.2.1) (k _ r1.2.2.1 r1.2.2.2.1) (k _ r1.2.2.2.2.1 r1.2.2.2.2.2), h2.chg hc (k _ r2.1 r2.2.1) (k _ r2.2.2.1 r2.2.2.2.1) (k _ r2.2.2.2.2.1 r2.2.2.2.2.2), r1, r2⟩

/-- Where the gauges lie. -/
structure Where where
  N1 : Nat
  N2 : Nat
  N3 : Nat
  N5 : Nat
  N6 : Nat
  N7 : Nat
  b1 : Nat
  c1 : Nat
  d1 : Nat
  b2 : Nat
  c2 : Nat
  d2 : Nat
  b3 : Nat
  c3 : Nat
  d3 : Nat
  b4 : Nat
  c4 : Nat
  d4 : Nat
  n : Nat
  bs : Nat → Nat
  code : Int
  vo : Value
  vp : Value

/-- The gauges, the document's, apart from one another. -/
structure St (L : Where) (w0 w : World) (g s : Gau) : Prop where
  pg : GaugeAt w L.b1 L.c1 L.d1 g
  pr : RefG w L.b2 L.c2 L.d2 g
  po : Oth L.N3 L.N5 L.n L.bs L.code L.vo L.vp w
  ps : GaugeAt w L.b3 L.c3 L.d3 s
  pt : RefG w L.b4 L.c4 L.d4 s
  be : Below w0.heap.size w0 w
  lo : w0.heap.size ≤ L.N1
  sz : L.N7 ≤ w.heap.size
  r1 : L.N1 ≤ L.b1 ∧ L.b1 < L.N2 ∧ L.N1 ≤ L.c1 ∧ L.c1 < L.N2 ∧ L.N1 ≤ L.d1 ∧ L.d1 < L.N2
  r2 : L.N2 ≤ L.b2 ∧ L.b2 < L.N3 ∧ L.N2 ≤ L.c2 ∧ L.c2 < L.N3 ∧ L.N2 ≤ L.d2 ∧ L.d2 < L.N3
  r3 : L.N5 ≤ L.b3 ∧ L.b3 < L.N6 ∧ L.N5 ≤ L.c3 ∧ L.c3 < L.N6 ∧ L.N5 ≤ L.d3 ∧ L.d3 < L.N6
  r4 : L.N6 ≤ L.b4 ∧ L.b4 < L.N7 ∧ L.N6 ≤ L.c4 ∧ L.c4 < L.N7 ∧ L.N6 ≤ L.d4 ∧ L.d4 < L.N7
  n35 : L.N3 ≤ L.N5

section
variable {L : Where} {w0 w w' : World} {g s g' : Gau}
/-- Both the gauge and the document's have turned alike. -/
theorem St.to12 (t : St L w0 w g s) {w1 : World} (hg : GaugeAt w1 L.b1 L.c1 L.d1 g') (hc : Chg [L.b1, L.c1] w w1) {w2 : World} (hb : Below w1.heap.size w1 w2) (hr : RefG w' L.b2 L.c2 L.d2 g') (hc' : Chg [L.b2, L.c2] w2 w') : St L w0 w' g' s := by
  obtain ⟨g1, g2, o, g3, g4, be, lo, sz, r1, r2, r3, r4, n35⟩ := t
  have q := be.size
  have cb := Chg.of_below hb []
  have i1 := hc.size
  have i2 := hb.size
  refine ⟨(hg.chg cb (by simp) (by simp) (by simp)).chg hc' (by simp; omega) (by simp; omega) (by simp; omega), hr, (((o.chg hc (by simp; omega)).chg cb (by simp)).chg hc' (by simp; omega)),
    (((g3.chg hc (by simp; omega) (by simp; omega) (by simp; omega)).chg cb (by simp) (by simp) (by simp)).chg hc' (by simp; omega) (by simp; omega) (by simp; omega)),
    (((g4.chg hc (by simp; omega) (by simp; omega) (by simp; omega)).chg cb (by simp) (by simp) (by simp)).chg hc' (by simp; omega) (by simp; omega) (by simp; omega)),
    ((be.trans (hc.below q (by simp; omega))).trans (hb.mono (by omega))).trans (hc'.below (by omega) (by simp; omega)), lo, Nat.le_trans sz (Nat.le_trans i1 (Nat.le_trans i2 hc'.size)), r1, r2, r3, r4, n35⟩
theorem St.to34 (t : St L w0 w g s) {w1 : World} (hg : GaugeAt w1 L.b3 L.c3 L.d3 g') (hc : Chg [L.b3, L.c3] w w1) {w2 : World} (hb : Below w1.heap.size w1 w2) (hr : RefG w' L.b4 L.c4 L.d4 g') (hc' : Chg [L.b4, L.c4] w2 w') : St L w0 w' g g' := by
  obtain ⟨g1, g2, o, g3, g4, be, lo, sz, r1, r2, r3, r4, n35⟩ := t
  have q := be.size
  have cb := Chg.of_below hb []
  have i1 := hc.size
  have i2 := hb.size
  refine ⟨(((g1.chg hc (by simp; omega) (by simp; omega) (by simp; omega)).chg cb (by simp) (by simp) (by simp)).chg hc' (by simp; omega) (by simp; omega) (by simp; omega)),
    (((g2.chg hc (by simp; omega) (by simp; omega) (by simp; omega)).chg cb (by simp) (by simp) (by simp)).chg hc' (by simp; omega) (by simp; omega) (by simp; omega)),
    (((o.chg hc (by simp; omega)).chg cb (by simp)).chg hc' (by simp; omega)),
    (hg.chg cb (by simp) (by simp) (by simp)).chg hc' (by simp; omega) (by simp; omega) (by simp; omega), hr,
    ((be.trans (hc.below q (by simp; omega))).trans (hb.mono (by omega))).trans (hc'.below (by omega) (by simp; omega)), lo, Nat.le_trans sz (Nat.le_trans i1 (Nat.le_trans i2 hc'.size)), r1, r2, r3, r4, n35⟩
theorem St.below (t : St L w0 w g s) (hb : Below w.heap.size w w') : St L w0 w' g s := by
  obtain ⟨g1, g2, o, g3, g4, be, lo, sz, r1, r2, r3, r4, n35⟩ := t
  have cb := Chg.of_below hb []
  exact ⟨g1.chg cb (by simp) (by simp) (by simp), g2.chg cb (by simp) (by simp) (by simp), o.chg cb (by simp), g3.chg cb (by simp) (by simp) (by simp), g4.chg cb (by simp) (by simp) (by simp),
    be.trans (hb.mono be.size), lo, Nat.le_trans sz hb.size, r1, r2, r3, r4, n35⟩
/-- After the gauge alone: what the document's needs. -/
theorem St.ref1 (t : St L w0 w g s) (hc : Chg [L.b1, L.c1] w w') : RefG w' L.b2 L.c2 L.d2 g := by
  obtain ⟨g1, g2, o, g3, g4, be, lo, sz, r1, r2, r3, r4, n35⟩ := t
  exact g2.chg hc (by simp; omega) (by simp; omega) (by simp; omega)
theorem St.ref3 (t : St L w0 w g s) (hc : Chg [L.b3, L.c3] w w') : RefG w' L.b4 L.c4 L.d4 s := by
  obtain ⟨g1, g2, o, g3, g4, be, lo, sz, r1, r2, r3, r4, n35⟩ := t
  exact g4.chg hc (by simp; omega) (by simp; omega) (by simp; omega)
theorem St.ref4 (t : St L w0 w g s) (hc : Chg [L.b1, L.c1] w w') : RefG w' L.b4 L.c4 L.d4 s := by
  obtain ⟨g1, g2, o, g3, g4, be, lo, sz, r1, r2, r3, r4, n35⟩ := t
  exact g4.chg hc (by simp; omega) (by simp; omega) (by simp; omega)
end
set_option maxHeartbeats 2000000 in
theorem of31n (sl : Option Addr) (len cap : Nat) (zs : Nat → Int) (w : World) (hlen : len * 8 ≤ 140737488351232)
    (hsl : ∀ i, i < len → ∃ b off, sl = some ⟨b, off, none⟩ ∧ b < w.heap.size ∧ w.cell? ⟨b, off + i, none⟩ = some (.int .u64 (zs i))) :
    Calls Try.prog 31 #[.slice sl len cap] w fun e w' => ∃ sl' cap', e = .returned (.slice sl' len cap') ∧ FltAt w' sl' len cap' (fun i => (zs i).toNat) ∧ (∀ b off, sl' = some ⟨b, off, none⟩ → w.heap.size ≤ b) ∧ Below w.heap.size w w' := by
  obtain ⟨i0, hi, hz0, hz1, hz2⟩ := info_parts (show (Try.prog.info? 25).map (fun i => (i.zero, i.size, i.bytes)) = some (some (.float .f64 0), 1, 8) from by kernel_rfl)
  have HSL := Lib.hid hsl
  have e19 := ext19
  clear hsl
  go_enter Try.func31, Try.ntmps31
  go_wp2_with fail
  go_loopw [3, 4] (fun v i wr => ∃ k : Nat, k ≤ len ∧ i = .int .i64 k ∧ wr.ownsRow w.heap.size 25 1 v k (fls2 (fun i => (zs i).toNat) k) ∧ Below w.heap.size w wr) (fun _ i _ => len - (intOf i).toNat)
  case atStart => exact ⟨0, Nat.zero_le _, rfl, World.ownsRow_nil _ _ _ _, Below.refl _ _⟩
  case round =>
    obtain ⟨k, hk, rfl, hown, hbr⟩ := hrel
    by_cases hlt : k < len
    · have hsz := hbr.size
      obtain ⟨cb, off, rfl, hbw, hcell⟩ := HSL.out k hlt
      have hcell' : wr.cell? ⟨cb, off + k, none⟩ = some (.int .u64 (zs k)) := (hbr.cell (p := ⟨cb, off + k, none⟩) hbw).trans hcell
      clear hcell
      go_wp2_with (first
        | (at_builtin; refine wpList_append_own _ rfl _ _ 56 rfl w.heap.size 25 i0 (.float .f64 0) 1 8 Try.underlying56 hi hz0 hz1 hz2 rfl (by decide) _ _ _ rfl (hown.alloc _) ⟨wr.heap.size, 0, none⟩ 1 1 [.float .f64 (zs k).toNat] rfl rfl ?c1 ?c2 ?c3 ?c4 ?c5 ?_))
      case c1 =>
        intro j u hj
        match j, hj with
        | 0, hj => simp at hj; subst hj; simp [Addr.add]
      case c2 => intro u hu; simp at hu; subst hu; rfl
      case c3 => unfold maxLen; omega
      case c4 => omega
      case c5 => simp; omega
      · intro v' w4 hown' hgrow _
        have hb4 := below_own (hbr.alloc hbr.size _) (hown.alloc _) hgrow (by simp; omega)
        have hown2 : w4.ownsRow w.heap.size 25 1 v' (k + 1) (fls2 (fun i => (zs i).toNat) (k + 1)) := by rw [← fls2_succ]; exact hown'
        clear hown' hgrow hown hbr
        go_wp2_with fail
        go_roundw
        case rel => exact ⟨k + 1, by omega, by go_num, hown2, hb4⟩
        case measure => simp [intOf]; omega
    · have hk2 : k = len := by omega
      subst hk2
      have H := Lib.hid hown
      have hB := Lib.hid hbr
      clear hown hbr hlt
      go_wp2_with fail
      go_ret
      rcases H.out.2 with ⟨rfl, h0⟩ | ⟨g, c, cur, rfl, _⟩
      · exact ⟨none, 0, by rw [h0]; rfl, ⟨fun i hi => by omega, fun _ => ⟨h0, rfl⟩⟩, nofun, hB.out⟩
      · refine ⟨some ⟨g, 0, none⟩, c, rfl, ⟨fun i hi => ⟨g, 0, rfl, (H.out.lt g rfl).2, ?_⟩, nofun⟩, fun b off e => (by injection e with e; injection e with e1 _; rw [← e1]; exact (H.out.lt g rfl).1), hB.out⟩
        rw [Nat.zero_add]
        exact (H.out.cellAt i (by omega)).trans (fls2_get hi)


/-- The other gauge is nil. -/
theorem merge_nil_right {w : World} {b bc bb : Nat} {g : Gau} (h : GaugeAt w b bc bb g) : Calls Try.prog 35 #[.pointer (some ⟨b, 0, none⟩), .pointer none] w fun e w' => e = .returned (.int .i64 1) ∧ w = w' := by
  have T := Lib.hid (there51 h)
  clear h
  go_enter Try.func35, Try.ntmps35
  go_wp2_with (first
    | (go_at_call 51; (with_reducible refine T.out.mono ?_); rintro e w' ⟨rfl, rfl⟩)
    | (go_at_call 51; refine (there51_nil _).mono ?_; rintro e w' ⟨rfl, rfl⟩))
  go_ret
  exact ⟨rfl, rfl⟩
section
variable {L : Where} {w0 w w' : World} {g s g' : Gau}
theorem St.be1 (t : St L w0 w g s) (hc : Chg [L.b1, L.c1] w w') : Below w0.heap.size w0 w' := by
  obtain ⟨g1, g2, o, g3, g4, be, lo, sz, r1, r2, r3, r4, n35⟩ := t
  have q := be.size
  exact be.trans (hc.below q (by simp; omega))
theorem St.be3 (t : St L w0 w g s) (hc : Chg [L.b3, L.c3] w w') : Below w0.heap.size w0 w' := by
  obtain ⟨g1, g2, o, g3, g4, be, lo, sz, r1, r2, r3, r4, n35⟩ := t
  have q := be.size
  exact be.trans (hc.below q (by simp; omega))
end
/-- A list of floats that lies above a mark. -/
structure FltU (N : Nat) (w : World) (sl : Option Addr) (n cap : Nat) (f : Nat → Nat) : Prop where
  at' : FltAt w sl n cap f
  up : ∀ b off, sl = some ⟨b, off, none⟩ → N ≤ b
theorem FltU.chg {N : Nat} {w w' : World} {sl : Option Addr} {n cap : Nat} {f : Nat → Nat} {s : List Nat} (h : FltU N w sl n cap f) (hc : Chg s w w') (hs : ∀ x ∈ s, x < N) : FltU N w' sl n cap f :=
  ⟨⟨fun i hi => by
    obtain ⟨b, off, h1, h2, h3⟩ := h.at'.cel i hi
    exact ⟨b, off, h1, Nat.lt_of_lt_of_le h2 hc.size, (hc.cell (p := ⟨b, off + i, none⟩) h2 (fun hm => by have := hs _ hm; have := h.up b off h1; simp at *; omega)).trans h3⟩, h.at'.nil⟩, h.up⟩
section
variable {L : Where} {w0 w w' : World} {g s : Gau}
theorem St.lt (t : St L w0 w g s) : L.b1 < L.N7 ∧ L.c1 < L.N7 ∧ L.b2 < L.N7 ∧ L.c2 < L.N7 ∧ L.b3 < L.N7 ∧ L.c3 < L.N7 ∧ L.b4 < L.N7 ∧ L.c4 < L.N7 := by
  obtain ⟨g1, g2, o, g3, g4, be, lo, sz, r1, r2, r3, r4, n35⟩ := t
  omega
end
end Go.Proofs.Ytofjgnlolmaidaa
