/- One gauge merged into another. -/
import Derived.Test.YtofjgnlolmaidaaGr
namespace Go.Proofs.Ytofjgnlolmaidaa
set_option linter.unusedVariables false
open Go.RowKit
attribute [local go_sem] run_store_float

def merge (g o : Gau) : Gau :=
  { n := g.n, bs := g.bs, cs := fun i => g.cs i + o.cs i, count := g.count + o.count, nans := g.nans + o.nans,
    least := if 0 < o.count then widenL g o.least else g.least, greatest := if 0 < o.count then widenG g o.greatest else g.greatest,
    mean := meanOf g.count g.mean o.count o.mean }

theorem GaugeAt.csEq {w : World} {b bc bb : Nat} {g : Gau} {f : Nat → Int} (h : GaugeAt w b bc bb g) (hf : ∀ i, i ≤ g.n → g.cs i = f i) : GaugeAt w b bc bb { g with cs := f } :=
  ⟨h.c0, h.c1, h.c2, h.c3, h.c4, h.c5, h.c6, h.c7, h.fz, h.fc, h.bnd, fun i hi => by show w.cell? _ = some (.int .i64 (f i)); rw [← hf i hi]; exact h.cel i hi, h.lb, h.lc, h.lbb, h.ne, h.neb, h.nec⟩
theorem wrap_sum {a c B : Int} (h0 : 0 ≤ a) (h1 : a ≤ B) (k0 : 0 ≤ c) (k1 : c ≤ B) (hB : B ≤ 100000000) : IntKind.i64.wrap (a + c) = a + c := by rw [IntKind.wrap_i64]; omega

set_option maxRecDepth 100000 in
set_option maxHeartbeats 400000 in
theorem merge35_no {w : World} {b bc bb b' bc' bb' : Nat} {g o : Gau} (h : GaugeAt w b bc bb g) (h' : GaugeAt w b' bc' bb' o) (hw : Wide g) (hw' : Wide o) (n64 : g.n ≤ 64) (n64' : o.n ≤ 64) (hal : alike g o = false) :
    Calls Try.prog 35 #[.pointer (some ⟨b, 0, none⟩), .pointer (some ⟨b', 0, none⟩)] w fun e w' => e = .returned (.int .i64 1) ∧ Drawn w w' := by
  have T := Lib.hid (there51 h)
  have T' := Lib.hid (there51 h')
  have A := alike57 h h' hw hw' n64 n64'
  rw [hal] at A
  have A := Lib.hid A
  clear h h' hw hw' hal
  go_enter Try.func35, Try.ntmps35
  go_wp2_with (first
    | (go_at_call 51; (with_reducible refine T.out.mono ?_); rintro e w' ⟨rfl, rfl⟩)
    | (go_at_call 51; (with_reducible refine T'.out.mono ?_); rintro e w' ⟨rfl, rfl⟩)
    | (go_at_call 57; (with_reducible refine A.out.mono ?_); rintro e w' ⟨rfl, nd, rfl⟩))
  go_ret
  exact ⟨rfl, _, rfl⟩

set_option maxRecDepth 100000 in
set_option maxHeartbeats 400000 in
theorem merge35_yes {w : World} {b bc bb b' bc' bb' : Nat} {g o : Gau} {B : Int} (h : GaugeAt w b bc bb g) (h' : GaugeAt w b' bc' bb' o) (hs : Sane g B) (hs' : Sane o B) (hB : B ≤ 100000000) (hal : alike g o = true) :
    Calls Try.prog 35 #[.pointer (some ⟨b, 0, none⟩), .pointer (some ⟨b', 0, none⟩)] w fun e w' => e = .returned (.int .i64 0) ∧ GaugeAt w' b bc bb (merge g o) ∧ Chg [b, bc] w w' := by
  have T := Lib.hid (there51 h)
  have T' := Lib.hid (there51 h')
  have A := alike57 h h' hs.wide hs'.wide hs.n64 hs'.n64
  rw [hal] at A
  have A := Lib.hid A
  have HH := Lib.hid h
  have HH' := Lib.hid h'
  have SS := Lib.hid hs
  have SS' := Lib.hid hs'
  have hn : g.n = o.n := by
    unfold alike at hal
    by_cases hn : g.n = o.n
    · exact hn
    · rw [if_neg hn] at hal; cases hal
  have HN := Lib.hid hn
  clear h h' hs hs' hal hn
  go_enter Try.func35, Try.ntmps35
  go_upto_region 3 with (first
    | (go_at_call 51; (with_reducible refine T.out.mono ?_); rintro e w' ⟨rfl, rfl⟩)
    | (go_at_call 51; (with_reducible refine T'.out.mono ?_); rintro e w' ⟨rfl, rfl⟩)
    | (go_at_call 57; (with_reducible refine A.out.mono ?_); rintro e w0 ⟨rfl, hd⟩))
  have h3 := (HH'.out.drawn hd).c3
  have h4 := (HH'.out.drawn hd).c4
  have h5 := (HH'.out.drawn hd).c5
  have h6 := (HH'.out.drawn hd).c6
  have h7 := (HH'.out.drawn hd).c7
  go_upto_region 4 with (fail)
  have hG0 := HH.out.drawn hd
  have lb := hG0.lb
  have lc := hG0.lc
  have hC0 : Chg [b, bc] w w0 := by obtain ⟨n, rfl⟩ := hd; exact (Chg.refl _ _).drewN n
  clear h3 h4 h5 h6 h7 T T' A
  have hGA := hG0.chg ((Chg.refl [] w0).alloc (.cells #[.int .i64 o.count, .int .i64 o.nans, .float .f64 o.least, .float .f64 o.greatest, .float .f64 o.mean] 76)) (by simp) (by simp) (by simp)
  have hGB := (HH'.out.drawn hd).chg ((Chg.refl [] w0).alloc (.cells #[.int .i64 o.count, .int .i64 o.nans, .float .f64 o.least, .float .f64 o.greatest, .float .f64 o.mean] 76)) (by simp) (by simp) (by simp)
  have hCA := hC0.alloc (.cells #[.int .i64 o.count, .int .i64 o.nans, .float .f64 o.least, .float .f64 o.greatest, .float .f64 o.mean] 76)
  have k0 := fun i => cell_new w0 #[.int .i64 o.count, .int .i64 o.nans, .float .f64 o.least, .float .f64 o.greatest, .float .f64 o.mean] 76 w0.heap.size i rfl
  have k5 := k0 0; have k6 := k0 1; have k7 := k0 2; have k8 := k0 3; have k9 := k0 4
  have kl : w0.heap.size < (w0.alloc (.cells #[.int .i64 o.count, .int .i64 o.nans, .float .f64 o.least, .float .f64 o.greatest, .float .f64 o.mean] 76)).heap.size := by simp
  clear k0 hC0 hG0 hd HH HH'
  generalize w0.heap.size = d0 at *
  generalize w0.alloc (.cells #[.int .i64 o.count, .int .i64 o.nans, .float .f64 o.least, .float .f64 o.greatest, .float .f64 o.mean] 76) = w1 at *
  simp only [List.getElem?_toArray, List.getElem?_cons_zero, List.getElem?_cons_succ] at k5 k6 k7 k8 k9
  have h3 := hGA.c3
  have h4 := hGA.c4
  have h5 := hGA.c5
  have h6 := hGA.c6
  have h7 := hGA.c7
  have M := Lib.hid (mean58 g.count g.nans g.least g.greatest g.mean o.count o.nans o.least o.greatest o.mean ⟨SS.out.c0, by have := SS.out.c1; omega⟩ ⟨SS'.out.c0, by have := SS'.out.c1; omega⟩)
  have HGA := Lib.hid hGA
  have HGB := Lib.hid hGB
  clear hGA hGB
  go_cut [6] (fun v wx => v = .float .f64 (meanOf g.count g.mean o.count o.mean) ∧ Below w1.heap.size w1 wx)
  case first =>
    go_region_with (go_at_call 58; (with_reducible refine (M.out _).mono ?_); rintro e w' ⟨rfl, hb⟩)
    all_goals
      go_wp2_with fail
      go_meet
      exact ⟨rfl, ((Below.refl w1.heap.size w1).drew).trans hb⟩
  case rest =>
    obtain ⟨rfl, hbx⟩ := hcut
    clear h3 h4 h5 h6 h7 M
    have hGx := HGA.out.chg (Chg.of_below hbx []) (by simp) (by simp) (by simp)
    have hOx := HGB.out.chg (Chg.of_below hbx []) (by simp) (by simp) (by simp)
    have hCx := hCA.trans (Chg.of_below hbx [b, bc])
    have lx := hbx.size
    have k5 := (hbx.cell (p := ⟨d0, 0, none⟩) kl).trans k5
    have k6 := (hbx.cell (p := ⟨d0, 1, none⟩) kl).trans k6
    have k7 := (hbx.cell (p := ⟨d0, 2, none⟩) kl).trans k7
    have k8 := (hbx.cell (p := ⟨d0, 3, none⟩) kl).trans k8
    have CL := Lib.hid (cells38 hOx SS'.out.n64)
    clear hOx HGA HGB hCA hbx
    go_wp2_with fail
    (with_reducible refine CL.out.mono ?_)
    rintro e w2 ⟨d, dcap, rfl, hI, ld, hb2⟩
    clear CL
    have hG2 := hGx.chg (Chg.of_below hb2 []) (by simp) (by simp) (by simp)
    have hC2 := hCx.trans (Chg.of_below hb2 [b, bc])
    have kl2 := Nat.lt_of_lt_of_le kl lx
    have k5 := (hb2.cell (p := ⟨d0, 0, none⟩) kl2).trans k5
    have k6 := (hb2.cell (p := ⟨d0, 1, none⟩) kl2).trans k6
    have k7 := (hb2.cell (p := ⟨d0, 2, none⟩) kl2).trans k7
    have k8 := (hb2.cell (p := ⟨d0, 3, none⟩) kl2).trans k8
    have kl3 := Nat.lt_of_lt_of_le kl2 hb2.size
    have lbx := hGx.lb
    have lcx := hGx.lc
    have hI1 := Lib.hid hI
    clear hGx hCx hb2 hI
    rw [← HN.out]
    have HG2 := Lib.hid hG2
    have HC2 := Lib.hid hC2
    clear hG2 hC2
    go_wp2_with fail
    go_loopw [36] (fun i wr => ∃ k : Nat, k ≤ g.n + 1 ∧ i = .int .i64 k ∧ GaugeAt wr b bc bb { g with cs := fun i => if i < k then g.cs i + o.cs i else g.cs i } ∧ Chg [b, bc] w2 wr) (fun i _ => g.n + 1 - (intOf i).toNat)
    case atStart => exact ⟨0, Nat.zero_le _, rfl, HG2.out, Chg.refl _ _⟩
    case round =>
      obtain ⟨k, hk, rfl, hGr, hCr⟩ := hrel
      by_cases hlt : k < g.n + 1
      · have hcd := (hCr.cell (p := ⟨d, k, none⟩) hI1.out.lt (by simp; omega)).trans (hI1.out.cel k (by rw [← HN.out]; exact hlt))
        obtain ⟨ccap, h2⟩ := hGr.c2
        have hck := hGr.cel k (by show k ≤ g.n; omega)
        simp only [Nat.lt_irrefl, if_false] at hck
        simp only at h2
        have hfk := hGr.fc k
        have s1 := SS.out.s0 k (by omega)
        have s2 := SS.out.s1 k (by omega)
        have s3 := SS'.out.s0 k (by rw [← HN.out]; omega)
        have s4 := SS'.out.s1 k (by rw [← HN.out]; omega)
        have hnx := hGr.setc k (g.cs k + o.cs k) (by show k ≤ g.n; omega)
        have hrel : GaugeAt (wr.setCell ⟨bc, k, none⟩ (.int .i64 (g.cs k + o.cs k))) b bc bb { g with cs := fun i => if i < k + 1 then g.cs i + o.cs i else g.cs i } := by
          refine hnx.csEq fun i hi => ?_
          simp only
          by_cases h1 : i = k
          · subst h1; simp
          · have e : (i < k + 1) = (i < k) := propext ⟨fun h => by omega, fun h => by omega⟩
            simp only [if_neg h1, e]
        have HR := Lib.hid hrel
        have HCR := Lib.hid (hCr.setCell (p := ⟨bc, k, none⟩) (.inl (by simp)) (.int .i64 (g.cs k + o.cs k)))
        clear hnx hrel hGr hCr
        have HLT := Lib.hid hlt
        have n64 := SS.out.n64
        go_wp2_with fail
        go_roundw
        case rel => exact ⟨k + 1, HLT.out, by go_num, HR.out, HCR.out⟩
        case measure => have := HLT.out; simp [intOf]; omega
      · have hk2 : k = g.n + 1 := by omega
        subst hk2
        have hG3 : GaugeAt wr b bc bb { g with cs := fun i => g.cs i + o.cs i } := hGr.csEq fun i hi => by
          have : i ≤ g.n := hi
          simp only; rw [if_pos (by omega)]
        have k5 := (hCr.cell (p := ⟨d0, 0, none⟩) kl3 (by simp; omega)).trans k5
        have k6 := (hCr.cell (p := ⟨d0, 1, none⟩) kl3 (by simp; omega)).trans k6
        have k7 := (hCr.cell (p := ⟨d0, 2, none⟩) kl3 (by simp; omega)).trans k7
        have k8 := (hCr.cell (p := ⟨d0, 3, none⟩) kl3 (by simp; omega)).trans k8
        have kl4 := Nat.lt_of_lt_of_le kl3 hCr.size
        have hC3 := HC2.out.trans hCr
        clear hGr hCr hlt hk HC2 HG2
        have b1 := SS.out.c0; have b2 := SS.out.c1; have b3 := SS.out.n0; have b4 := SS.out.n1
        have b5 := SS'.out.c0; have b6 := SS'.out.c1; have b7 := SS'.out.n0; have b8 := SS'.out.n1
        have wc := wrap_sum b1 b2 b5 b6 hB
        have wn := wrap_sum b3 b4 b7 b8 hB
        have WD := Lib.hid (widen53 (l := o.least) (m := o.greatest) hG3 SS.out.le SS.out.gr SS'.out.le SS'.out.gr)
        have lb3 := hG3.lb
        have lc3 := hG3.lc
        have HC3 := Lib.hid hC3
        have HG3 := Lib.hid hG3
        have d0b : d0 ≠ b ∧ d0 ≠ bc := by omega
        clear hC3 hG3
        go_upto_if 54 with (fail)
        go_cut [] (fun wx => GaugeAt wx b bc bb { g with cs := fun i => g.cs i + o.cs i, least := (merge g o).least, greatest := (merge g o).greatest } ∧ Chg [b, bc] wr wx)
        case first =>
          by_cases z : 0 < o.count
          · have e1 : Hid ((merge g o).least = widenL g o.least) := Lib.hid (if_pos z)
            have e2 : Hid ((merge g o).greatest = widenG g o.greatest) := Lib.hid (if_pos z)
            go_wp2_with fail
            (with_reducible refine WD.out.mono ?_)
            rintro e w3 ⟨rfl, hG4, hC4⟩
            go_wp2_with fail
            go_meet
            rw [e1.out, e2.out]
            exact ⟨hG4, hC4.mono (by simp)⟩
          · have e1 : Hid ((merge g o).least = g.least) := Lib.hid (if_neg z)
            have e2 : Hid ((merge g o).greatest = g.greatest) := Lib.hid (if_neg z)
            go_wp2_with fail
            go_meet
            rw [e1.out, e2.out]
            exact ⟨HG3.out, Chg.refl _ _⟩
        case rest =>
          obtain ⟨hG4, hC4⟩ := hcut
          have k5 := (hC4.cell (p := ⟨d0, 0, none⟩) kl4 (by simp; omega)).trans k5
          have k6 := (hC4.cell (p := ⟨d0, 1, none⟩) kl4 (by simp; omega)).trans k6
          have kl5 := Nat.lt_of_lt_of_le kl4 hC4.size
          have hC5 := HC3.out.trans hC4
          have h3 := hG4.c3
          have f3 := hG4.fz 3
          simp only at h3
          have hG5 := hG4.set3 (g.count + o.count)
          clear hC4 HC3 HG3 WD k7 k8
          have HG5 := Lib.hid hG5
          have HC5 := Lib.hid (fun (u : World) => hC5)
          go_upto_region 12 with (fail)
          go_cut [] (fun wx => GaugeAt wx b bc bb { g with cs := fun i => g.cs i + o.cs i, least := (merge g o).least, greatest := (merge g o).greatest, count := g.count + o.count } ∧ Chg [b, bc] wc wx)
          case first =>
            clear hG4 hG5 hC5 HC5 k6
            go_region
            all_goals
              go_wp2_with fail
              go_meet
              exact ⟨HG5.out.drewN 1, (((Chg.refl [b, bc] wc).drewN 1).setCell (p := ⟨b, 3, none⟩) (.inl (by simp)) _)⟩
          case rest =>
            clear hG4 hG5 HG5 HC5 h3 f3
            obtain ⟨hG6, hC6⟩ := hcut
            have k6 := (hC6.cell (p := ⟨d0, 1, none⟩) kl5 (by simp; omega)).trans k6
            have h4 := hG6.c4
            have f4 := hG6.fz 4
            simp only at h4
            have hG7 := hG6.set4 (g.nans + o.nans)
            have hC7 := hC5.trans hC6
            have HG7 := Lib.hid hG7
            have HC7 := Lib.hid hC7
            clear hG6 hC6 hG7 hC7 hC5 k5
            go_upto_region 13 with (fail)
            go_cut [] (fun wy => GaugeAt wy b bc bb { g with cs := fun i => g.cs i + o.cs i, least := (merge g o).least, greatest := (merge g o).greatest, count := g.count + o.count, nans := g.nans + o.nans } ∧ Chg [b, bc] w wy)
            case first =>
              go_region
              all_goals
                go_wp2_with fail
                go_meet
                exact ⟨HG7.out.drewN 1, (HC7.out.drewN 1).setCell (p := ⟨b, 4, none⟩) (.inl (by simp)) _⟩
            case rest =>
              clear HG7 HC7 h4 f4 k6
              obtain ⟨hG8, hC8⟩ := hcut
              have h7 := hG8.c7
              have f7 := hG8.fz 7
              simp only at h7
              have HG9 := Lib.hid (hG8.set7 (meanOf g.count g.mean o.count o.mean))
              have HC9 := Lib.hid hC8
              clear hG8 hC8
              go_wp2_with fail
              go_ret
              exact ⟨rfl, HG9.out, HC9.out.setCell (p := ⟨b, 7, none⟩) (.inl (by simp)) _⟩
end Go.Proofs.Ytofjgnlolmaidaa
