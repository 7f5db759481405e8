/- The reference's Merge of gauges with the same bounds. -/
import Derived.Test.YtofjgnlolmaidaaHe
import Derived.Test.YtofjgnlolmaidaaHb
namespace Go.Proofs.Ytofjgnlolmaidaa
set_option linter.unusedVariables false
open Go.RowKit
attribute [local go_sem] run_store_float run_fop_add run_fop_sub run_fop_mul run_fop_quo

theorem frozen_new (w : World) (c : Array Value) (t : TypeId) (i : Nat) : (w.alloc (.cells c t)).frozen? ⟨w.heap.size, i, none⟩ = false := by
  have h := alloc_at w (.cells c t) _ rfl
  unfold World.frozen?; rw [h]; simp

set_option maxRecDepth 100000 in
set_option maxHeartbeats 8000000 in
theorem refmerge36_yes {w : World} {b bc bb b' bc' bb' : Nat} {g o : Gau} {B : Int} (h : RefG w b bc bb g) (h' : RefG w b' bc' bb' o) (hs : Sane g B) (hs' : Sane o B) (hB : B ≤ 100000000) (hal : alike g o = true) :
    Calls Try.prog 36 #[.pointer (some ⟨b, 0, none⟩), .pointer (some ⟨b', 0, none⟩)] w fun e w' => e = .returned (.int .i64 0) ∧ RefG w' b bc bb (merge g o) ∧ Chg [b, bc] w w' := by
  obtain ⟨hn, heq⟩ := alike_yes hal
  clear hal
  have HH := Lib.hid h
  have HH' := Lib.hid h'
  have SS := Lib.hid hs
  have SS' := Lib.hid hs'
  have n64 := hs.n64
  have n64' := hs'.n64
  obtain ⟨sl, cap, h1, hsl⟩ := h.c1
  obtain ⟨sl', cap', h1', hsl'⟩ := h'.c1
  have HSL := Lib.hid hsl
  have HSL' := Lib.hid hsl'
  have hni : ((g.n : Int) != (o.n : Int)) = false := by simp [hn]
  have HN := Lib.hid hn
  have HE := Lib.hid heq
  clear h h' hsl hsl' hs hs' hn heq
  go_enter Try.func36, Try.ntmps36
  go_wp2_with fail
  go_quiet (fail)
  go_upto_block 0 with (fail)
  go_cut [5] (fun v wx => Drawn w wx)
  case first =>
    as_aux_lemma =>
      go_wp2_with fail
      go_loopw [5] (fun i wr => ∃ k : Nat, k ≤ g.n ∧ i = .int .i64 k ∧ Drawn w wr) (fun i _ => g.n - (intOf i).toNat)
      case atStart => exact ⟨0, Nat.zero_le _, rfl, _, rfl⟩
      case round =>
        obtain ⟨k, hk, rfl, hd⟩ := hrel
        have hc0 : wr.cell? ⟨b, 0, none⟩ = some (.slice sl g.n cap) := (hd.cell _).trans h1
        by_cases hlt : k < g.n
        · have hlo : k < o.n := by rw [← HN.out]; exact hlt
          have e1 := HSL.out k hlt
          have e2 := HSL'.out k hlo
          subst e1
          subst e2
          have hb1 : wr.cell? ⟨bb, k, none⟩ = some (.float .f64 (g.bs k)) := (hd.cell _).trans (HH.out.bnd k hlt)
          have hb2 : wr.cell? ⟨bb', k, none⟩ = some (.float .f64 (o.bs k)) := (hd.cell _).trans (HH'.out.bnd k hlo)
          have hc1 : wr.cell? ⟨b', 0, none⟩ = some (.slice (some ⟨bb', 0, none⟩) o.n cap') := (hd.cell _).trans h1'
          have SM := Lib.hid (same59 (SS.out.wide k hlt) (SS'.out.wide k hlo))
          have kb : (key (g.bs k) == key (o.bs k)) = true := by have := HE.out k hlt; simpa using this
          generalize (key (g.bs k) == key (o.bs k)) = r at *
          subst kb
          go_wp2_with fail
          go_quiet ((go_at_call 59; exact quiet_left (SM.out _)))
          go_wp2_with fail
          go_roundw
          case rel => exact ⟨k + 1, by omega, by go_num, hd.trans ⟨_, rfl⟩⟩
          case measure => simp [intOf]; omega
        · go_wp2_with fail
          go_meet
          exact hd
  case rest =>
    as_aux_lemma =>
      rename Drawn w wc => hd
      have hG0 := HH.out.drawn hd
      have hO0 := HH'.out.drawn hd
      have h3 := hO0.c3
      have h4 := hO0.c4
      have h5 := hO0.c5
      have h6 := hO0.c6
      have h7 := hO0.c7
      clear h1 h1' hni
      go_upto_region 9 with (fail)
      have hGA := hG0.chg ((Chg.refl [] wc).alloc (.cells #[.int .i64 o.count, .int .i64 o.nans, .float .f64 o.least, .float .f64 o.greatest, .float .f64 o.mean] 76)) (by simp) (by simp) (by simp)
      have hOA := hO0.chg ((Chg.refl [] wc).alloc (.cells #[.int .i64 o.count, .int .i64 o.nans, .float .f64 o.least, .float .f64 o.greatest, .float .f64 o.mean] 76)) (by simp) (by simp) (by simp)
      have hC0 : Chg [b, bc] w wc := by obtain ⟨n, rfl⟩ := hd; exact (Chg.refl _ _).drewN n
      have hCA := hC0.alloc (.cells #[.int .i64 o.count, .int .i64 o.nans, .float .f64 o.least, .float .f64 o.greatest, .float .f64 o.mean] 76)
      have k0 := fun i => cell_new wc #[.int .i64 o.count, .int .i64 o.nans, .float .f64 o.least, .float .f64 o.greatest, .float .f64 o.mean] 76 wc.heap.size i rfl
      have k5 := k0 0; have k6 := k0 1; have k7 := k0 2; have k8 := k0 3; have k9 := k0 4
      have lb := hG0.lb
      have lc := hG0.lc
      have lbb0 := hG0.lbb
      have ld0 := hC0.size
      have kl : wc.heap.size < (wc.alloc (.cells #[.int .i64 o.count, .int .i64 o.nans, .float .f64 o.least, .float .f64 o.greatest, .float .f64 o.mean] 76)).heap.size := by simp
      have fA := frozen_new wc #[.int .i64 o.count, .int .i64 o.nans, .float .f64 o.least, .float .f64 o.greatest, .float .f64 o.mean] 76
      clear k0 hC0 hG0 hO0 hd HH HH' h3 h4 h5 h6 h7
      generalize wc.heap.size = d0 at *
      generalize wc.alloc (.cells #[.int .i64 o.count, .int .i64 o.nans, .float .f64 o.least, .float .f64 o.greatest, .float .f64 o.mean] 76) = w1 at *
      simp only [List.getElem?_toArray, List.getElem?_cons_zero, List.getElem?_cons_succ] at k5 k6 k7 k8 k9
      obtain ⟨cap2, h2⟩ := hOA.c2
      have HC := Lib.hid hOA.cel
      have HGA := Lib.hid hGA
      have HCA := Lib.hid hCA
      have FA := Lib.hid fA
      clear hOA hGA hCA fA
      go_upto_region 10 with ((at_builtin; refine wpList_append_ints (by rfl) (.tmp 55) (by rfl) (by rfl) ⟨bc', 0, none⟩ (o.n + 1) cap2 o.cs (by rfl) (Nat.succ_pos _) (Nat.succ_le_succ n64') (fun j hj => (by rw [add_lit', Nat.zero_add]; exact HC.out j (Nat.le_of_lt_succ hj))) ?_))
      have hI := intsAt_made w1 (o.n + 1) o.cs (grownCap w1 (o.n + 1) 0 2)
      have hb2 : Below w1.heap.size w1 ((w1.alloc (.cells (intRow (o.n + 1) o.cs (grownCap w1 (o.n + 1) 0 2)) 2)).drew) := ((Below.refl _ _).alloc (Nat.le_refl _) _).drew
      generalize (w1.alloc (.cells (intRow (o.n + 1) o.cs (grownCap w1 (o.n + 1) 0 2)) 2)).drew = w2 at *
      generalize grownCap w1 (o.n + 1) 0 2 = dcap at *
      have hG2 := HGA.out.chg (Chg.of_below hb2 []) (by simp) (by simp) (by simp)
      have hC2 := HCA.out.trans (Chg.of_below hb2 [b, bc])
      have k5 := (hb2.cell (p := ⟨d0, 0, none⟩) kl).trans k5
      have k6 := (hb2.cell (p := ⟨d0, 1, none⟩) kl).trans k6
      have k7 := (hb2.cell (p := ⟨d0, 2, none⟩) kl).trans k7
      have k8 := (hb2.cell (p := ⟨d0, 3, none⟩) kl).trans k8
      have k9 := (hb2.cell (p := ⟨d0, 4, none⟩) kl).trans k9
      have fA := fun i => (hb2.frozen (p := ⟨d0, i, none⟩) kl).trans (FA.out i)
      have lb1 := HGA.out.lb
      have lc1 := HGA.out.lc
      have kl2 := Nat.lt_of_lt_of_le kl hb2.size
      have hdl := hI.lt
      clear hb2 FA HC h2
      generalize w1.heap.size = d at *
      rw [← HN.out] at hI
      rw [← HN.out]
      have HI := Lib.hid hI
      have HG2 := Lib.hid hG2
      have HC2 := Lib.hid hC2
      have FA := Lib.hid fA
      clear hI hG2 hC2 HGA HCA fA
      go_upto_block 2 with (fail)
      go_cut [8] (fun v wx => RefG wx b bc bb { g with cs := fun i => g.cs i + o.cs i } ∧ Chg [b, bc] w2 wx)
      case first =>
        as_aux_lemma =>
          go_wp2_with fail
          go_loopw [8] (fun i wr => ∃ k : Nat, k ≤ g.n + 1 ∧ i = .int .i64 k ∧ RefG wr b bc bb { g with cs := fun i => if i < k then g.cs i + o.cs i else g.cs i } ∧ Chg [b, bc] w2 wr) (fun i _ => g.n + 1 - (intOf i).toNat)
          case atStart => exact ⟨0, Nat.zero_le _, rfl, HG2.out, Chg.refl _ _⟩
          case round =>
            obtain ⟨k, hk, rfl, hGr, hCr⟩ := hrel
            by_cases hlt : k < g.n + 1
            · have hcd := (hCr.cell (p := ⟨d, k, none⟩) HI.out.lt (by simp; omega)).trans (HI.out.cel k hlt)
              obtain ⟨ccap, h2⟩ := hGr.c2
              have hck := hGr.cel k (by show k ≤ g.n; omega)
              simp only [Nat.lt_irrefl, if_false] at hck
              simp only at h2
              have hfk := hGr.fc k
              have s1 := SS.out.s0 k (by omega)
              have s2 := SS.out.s1 k (by omega)
              have s3 := SS'.out.s0 k (by rw [← HN.out]; omega)
              have s4 := SS'.out.s1 k (by rw [← HN.out]; omega)
              have hnx := hGr.setc k (g.cs k + o.cs k) (by show k ≤ g.n; omega)
              have hrel : RefG (wr.setCell ⟨bc, k, none⟩ (.int .i64 (g.cs k + o.cs k))) b bc bb { g with cs := fun i => if i < k + 1 then g.cs i + o.cs i else g.cs i } := by
                refine hnx.csEq fun i hi => ?_
                simp only
                by_cases h1 : i = k
                · subst h1; simp
                · have e : (i < k + 1) = (i < k) := propext ⟨fun h => by omega, fun h => by omega⟩
                  simp only [if_neg h1, e]
              have HR := Lib.hid hrel
              have HCR := Lib.hid (hCr.setCell (p := ⟨bc, k, none⟩) (.inl (by simp)) (.int .i64 (g.cs k + o.cs k)))
              have HLT := Lib.hid hlt
              clear hnx hrel hGr hCr
              go_wp2_with fail
              go_region
              all_goals
                go_wp2_with fail
                go_roundw
                case rel => exact ⟨k + 1, HLT.out, by go_num, HR.out.drewN 1, HCR.out.drewN 1⟩
                case measure => have := HLT.out; simp [intOf]; omega
            · have hk2 : k = g.n + 1 := by omega
              subst hk2
              have hG3 : RefG wr b bc bb { g with cs := fun i => g.cs i + o.cs i } := hGr.csEq fun i hi => by
                have : i ≤ g.n := hi
                simp only; rw [if_pos (by omega)]
              have HR := Lib.hid hG3
              clear hG3 hGr
              go_wp2_with fail
              go_meet
              exact ⟨HR.out, hCr⟩
      case rest =>
        as_aux_lemma =>
          obtain ⟨hG3, hC3⟩ := hcut
          have nb : d0 ≠ b ∧ d0 ≠ bc := by omega
          have k5 := (hC3.cell (p := ⟨d0, 0, none⟩) kl2 (by simp; omega)).trans k5
          have k6 := (hC3.cell (p := ⟨d0, 1, none⟩) kl2 (by simp; omega)).trans k6
          have k7 := (hC3.cell (p := ⟨d0, 2, none⟩) kl2 (by simp; omega)).trans k7
          have k8 := (hC3.cell (p := ⟨d0, 3, none⟩) kl2 (by simp; omega)).trans k8
          have k9 := (hC3.cell (p := ⟨d0, 4, none⟩) kl2 (by simp; omega)).trans k9
          have FA := Lib.hid (fun i => (hC3.frozen (p := ⟨d0, i, none⟩) kl2 (by simp; omega)).trans (FA.out i))
          have kl3 := Nat.lt_of_lt_of_le kl2 hC3.size
          have HC3 := Lib.hid (HC2.out.trans hC3)
          have h4 := hG3.c4
          have f4 := hG3.fz 3
          simp only at h4
          have b3 := SS.out.n0; have b4 := SS.out.n1
          have b7 := SS'.out.n0; have b8 := SS'.out.n1
          have wn := wrap_sum b3 b4 b7 b8 hB
          have HG4 := Lib.hid (hG3.set4 (g.nans + o.nans))
          clear hG3 hC3 HC2 HG2 HI
          go_upto_region 14 with (fail)
          go_cut [] (fun wx => RefG wx b bc bb { g with cs := fun i => g.cs i + o.cs i, nans := g.nans + o.nans } ∧ Chg [b] wc wx)
          case first =>
            as_aux_lemma =>
              go_region
              all_goals
                go_wp2_with fail
                go_meet
                exact ⟨HG4.out.drewN 1, ((Chg.refl [b] wc).setCell (p := ⟨b, 3, none⟩) (.inl (by simp)) _).drewN 1⟩
          case rest =>
            as_aux_lemma =>
              clear h4 f4 b3 b4 b7 b8 wn HG4
              obtain ⟨hG4, hC4⟩ := hcut
              have k5 := (hC4.cell (p := ⟨d0, 0, none⟩) kl3 (by simp; omega)).trans k5
              have k6 := (hC4.cell (p := ⟨d0, 1, none⟩) kl3 (by simp; omega)).trans k6
              have k7 := (hC4.cell (p := ⟨d0, 2, none⟩) kl3 (by simp; omega)).trans k7
              have k8 := (hC4.cell (p := ⟨d0, 3, none⟩) kl3 (by simp; omega)).trans k8
              have k9 := (hC4.cell (p := ⟨d0, 4, none⟩) kl3 (by simp; omega)).trans k9
              have FA := Lib.hid (fun i => (hC4.frozen (p := ⟨d0, i, none⟩) kl3 (by simp; omega)).trans (FA.out i))
              have HC4 := Lib.hid (HC3.out.trans (hC4.mono (by simp)))
              have kl3 := Nat.lt_of_lt_of_le kl3 hC4.size
              clear hC4 HC3 kl2
              have c0 := SS'.out.c0
              by_cases z : o.count = 0
              · have E : Hid (merge g o = _) := Lib.hid (merge_zero z)
                have z' : (o.count == 0) = true := by simpa using z
                have HG := Lib.hid hG4
                clear z hG4
                go_wp2_with fail
                go_ret
                exact ⟨rfl, by rw [E.out]; exact HG.out, HC4.out⟩
              · have z' : (o.count == 0) = false := by simpa using z
                have h3 := hG4.c3
                simp only at h3
                by_cases y : g.count = 0
                · have E : Hid (merge g o = _) := Lib.hid (merge_first z c0 y)
                  have y' : (g.count == 0) = true := by simpa using y
                  have h4 := hG4.c4
                  simp only at h4
                  have HG := Lib.hid hG4
                  have f2 := hG4.fz 2
                  have f1 := FA.out 1
                  clear z hG4 y
                  go_upto_region 19 with (fail)
                  have hCd := (Chg.refl [d0] wc).setCell (p := ⟨d0, 1, none⟩) (.inl (by simp)) (.int .i64 (g.nans + o.nans))
                  have hGd := HG.out.chg hCd (by simp; omega) (by simp; omega) (by simp; omega)
                  have k5 := (cell_other (w := wc) (a := ⟨d0, 1, none⟩) (.int .i64 (g.nans + o.nans)) (addr_ne (o' := 0) (by decide))).trans k5
                  have k6' := cell_same (w := wc) (.int .i64 (g.nans + o.nans)) k6
                  have k7 := (cell_other (w := wc) (a := ⟨d0, 1, none⟩) (.int .i64 (g.nans + o.nans)) (addr_ne (o' := 2) (by decide))).trans k7
                  have k8 := (cell_other (w := wc) (a := ⟨d0, 1, none⟩) (.int .i64 (g.nans + o.nans)) (addr_ne (o' := 3) (by decide))).trans k8
                  have k9 := (cell_other (w := wc) (a := ⟨d0, 1, none⟩) (.int .i64 (g.nans + o.nans)) (addr_ne (o' := 4) (by decide))).trans k9
                  have HC5 := Lib.hid (HC4.out.new hCd (by simp; omega))
                  have m2 := hGd.c3; have m3 := hGd.c4; have m4 := hGd.c5; have m5 := hGd.c6; have m6 := hGd.c7
                  have f := hGd.fz
                  have f2 := f 2; have f3 := f 3; have f4 := f 4; have f5 := f 5; have f6 := f 6
                  have HGd := Lib.hid hGd
                  clear k6 hCd hGd f f1 h3 h4
                  simp only at m2 m3 m4 m5 m6
                  generalize wc.setCell ⟨d0, 1, none⟩ (.int .i64 (g.nans + o.nans)) = w5 at *
                  go_wp2_with fail
                  go_ret
                  refine ⟨rfl, ?_, ((((HC5.out.setCell (.inl (by simp)) _).setCell (.inl (by simp)) _).setCell (.inl (by simp)) _).setCell (.inl (by simp)) _).setCell (.inl (by simp)) _⟩
                  rw [E.out]
                  exact ((((HGd.out.set3 o.count).set4 (g.nans + o.nans)).set5 o.least).set6 o.greatest).set7 o.mean
                · have E : Hid (merge g o = _) := Lib.hid (merge_both z c0 y)
                  have y' : (g.count == 0) = false := by simpa using y
                  have HG := Lib.hid hG4
                  clear z hG4 y
                  have h5 := HG.out.c5
                  simp only at h5
                  have CL := Lib.hid (fun w => compare40 SS'.out.le SS.out.le w)
                  have CG := Lib.hid (fun w => compare40 SS'.out.gr SS.out.gr w)
                  go_upto_region 21 with (fail)
                  go_cut [122] (fun v wx => v = .bool (decide (key o.least < key g.least)) ∧ Drawn wc wx)
                  case first =>
                    as_aux_lemma =>
                      have Q1 := Lib.hid (cmpN_lt (key o.least) (key g.least))
                      generalize cmpN (key o.least) (key g.least) = cv at CL Q1
                      clear k5 k6 k8 k9 y' z' h3 c0 nb HN HE n64 n64' HC4
                      go_quiet ((go_at_call 40; exact quiet_left (CL.out _)))
                      go_wp2_with fail
                      go_meet
                      exact ⟨by rw [← Q1.out], _, rfl⟩
                  case rest =>
                    as_aux_lemma =>
                      obtain ⟨rfl, hd⟩ := hcut
                      have HG1 := Lib.hid (HG.out.drawn hd)
                      have HC5 := Lib.hid (HC4.out.trans (Chg.of_below hd.below [b, bc]))
                      have hC5S := Lib.hid hd.below.size
                      have k5 := (hd.cell ⟨d0, 0, none⟩).trans k5
                      have k7 := (hd.cell ⟨d0, 2, none⟩).trans k7
                      have k8 := (hd.cell ⟨d0, 3, none⟩).trans k8
                      have k9 := (hd.cell ⟨d0, 4, none⟩).trans k9
                      have h5 := HG1.out.c5
                      have f5 := HG1.out.fz 4
                      simp only at h5
                      clear hd HG HC4 k6 h3
                      go_upto_if 122 with (fail)
                      go_cut [] (fun wx => RefG wx b bc bb { g with cs := fun i => g.cs i + o.cs i, nans := g.nans + o.nans, least := if key o.least < key g.least then o.least else g.least } ∧ Chg [b] wc wx)
                      case first =>
                        as_aux_lemma =>
                          by_cases kl : key o.least < key g.least
                          · rw [decide_eq_true kl]
                            have H : Hid ((if key o.least < key g.least then o.least else g.least) = o.least) := Lib.hid (if_pos kl)
                            clear kl
                            go_wp2_with fail
                            go_meet
                            rw [H.out]
                            exact ⟨HG1.out.set5 _, (Chg.refl _ _).setCell (.inl (by simp)) _⟩
                          · rw [decide_eq_false kl]
                            have H : Hid ((if key o.least < key g.least then o.least else g.least) = g.least) := Lib.hid (if_neg kl)
                            clear kl
                            go_wp2_with fail
                            go_meet
                            rw [H.out]
                            exact ⟨HG1.out, Chg.refl _ _⟩
                      case rest =>
                        as_aux_lemma =>
                          obtain ⟨hG2, hC2⟩ := hcut
                          have kl4 := Nat.lt_of_lt_of_le kl3 hC5S.out
                          have k5 := (hC2.cell (p := ⟨d0, 0, none⟩) kl4 (by simp; omega)).trans k5
                          have k8 := (hC2.cell (p := ⟨d0, 3, none⟩) kl4 (by simp; omega)).trans k8
                          have k9 := (hC2.cell (p := ⟨d0, 4, none⟩) kl4 (by simp; omega)).trans k9
                          have kl5 := Nat.lt_of_lt_of_le kl4 hC2.size
                          have HG2 := Lib.hid hG2
                          have HC6 := Lib.hid (HC5.out.trans (hC2.mono (by simp)))
                          have h6 := hG2.c6
                          simp only at h6
                          clear hG2 hC2 HG1 HC5 h5 f5 k7 kl4
                          go_upto_region 23 with (fail)
                          go_cut [137] (fun v wx => v = .bool (decide (key g.greatest < key o.greatest)) ∧ Drawn wc wx)
                          case first =>
                            as_aux_lemma =>
                              have Q1 := Lib.hid (cmpN_gt (key o.greatest) (key g.greatest))
                              generalize cmpN (key o.greatest) (key g.greatest) = cv at CG Q1
                              clear k5 k9 y' z' c0 nb HN HE n64 n64' HC6
                              go_quiet ((go_at_call 40; exact quiet_left (CG.out _)))
                              go_wp2_with fail
                              go_meet
                              exact ⟨by rw [← Q1.out], _, rfl⟩
                          case rest =>
                            as_aux_lemma =>
                              obtain ⟨rfl, hd⟩ := hcut
                              have HG3 := Lib.hid (HG2.out.drawn hd)
                              have HC7 := Lib.hid (HC6.out.trans (Chg.of_below hd.below [b, bc]))
                              have k5 := (hd.cell ⟨d0, 0, none⟩).trans k5
                              have k8 := (hd.cell ⟨d0, 3, none⟩).trans k8
                              have k9 := (hd.cell ⟨d0, 4, none⟩).trans k9
                              have kl6 := Nat.lt_of_lt_of_le kl5 hd.below.size
                              have h6 := HG3.out.c6
                              have f6 := HG3.out.fz 5
                              simp only at h6
                              clear hd HG2 HC6 kl5
                              go_upto_if 137 with (fail)
                              go_cut [] (fun wx => RefG wx b bc bb { g with cs := fun i => g.cs i + o.cs i, nans := g.nans + o.nans, least := if key o.least < key g.least then o.least else g.least, greatest := if key g.greatest < key o.greatest then o.greatest else g.greatest } ∧ Chg [b] wc wx)
                              case first =>
                                as_aux_lemma =>
                                  by_cases kl : key g.greatest < key o.greatest
                                  · rw [decide_eq_true kl]
                                    have H : Hid ((if key g.greatest < key o.greatest then o.greatest else g.greatest) = o.greatest) := Lib.hid (if_pos kl)
                                    clear kl
                                    go_wp2_with fail
                                    go_meet
                                    rw [H.out]
                                    exact ⟨HG3.out.set6 _, (Chg.refl _ _).setCell (.inl (by simp)) _⟩
                                  · rw [decide_eq_false kl]
                                    have H : Hid ((if key g.greatest < key o.greatest then o.greatest else g.greatest) = g.greatest) := Lib.hid (if_neg kl)
                                    clear kl
                                    go_wp2_with fail
                                    go_meet
                                    rw [H.out]
                                    exact ⟨HG3.out, Chg.refl _ _⟩
                              case rest =>
                                as_aux_lemma =>
                                  obtain ⟨hG2, hC2⟩ := hcut
                                  have k5 := (hC2.cell (p := ⟨d0, 0, none⟩) kl6 (by simp; omega)).trans k5
                                  have k9 := (hC2.cell (p := ⟨d0, 4, none⟩) kl6 (by simp; omega)).trans k9
                                  have kl7 := Nat.lt_of_lt_of_le kl6 hC2.size
                                  have HG4 := Lib.hid hG2
                                  have HC8 := Lib.hid (HC7.out.trans (hC2.mono (by simp)))
                                  have h7 := hG2.c7
                                  have h3 := hG2.c3
                                  have f2 := hG2.fz 2
                                  have f6 := hG2.fz 6
                                  simp only at h7 h3
                                  clear hG2 hC2 HG3 HC7 h6 k8 kl6 CL CG
                                  go_upto_region 25 with (fail)
                                  go_cut [9] (fun v wx => (∃ w0, v = .float .f64 (fopR .sub o.mean g.mean w0)) ∧ Drawn wc wx)
                                  case first =>
                                    as_aux_lemma =>
                                      clear k5 y' z' c0 nb HN HE n64 n64' HC8
                                      go_region
                                      all_goals
                                        go_wp2_with fail
                                        go_meet
                                        exact ⟨⟨_, rfl⟩, _, rfl⟩
                                  case rest =>
                                    as_aux_lemma =>
                                      obtain ⟨⟨w0, rfl⟩, hd⟩ := hcut
                                      have HG5 := Lib.hid (HG4.out.drawn hd)
                                      have HC9 := Lib.hid (HC8.out.trans (Chg.of_below hd.below [b, bc]))
                                      have k5 := (hd.cell ⟨d0, 0, none⟩).trans k5
                                      have h7 := HG5.out.c7
                                      have h3 := HG5.out.c3
                                      simp only at h7 h3
                                      have b1 := SS.out.c0; have b2 := SS.out.c1; have b6 := SS'.out.c1
                                      have wn := wrap_sum b1 b2 c0 b6 hB
                                      have kl8 := Nat.lt_of_lt_of_le kl7 hd.below.size
                                      clear hd HG4 HC8 k9 kl7
                                      go_upto_region 26 with (fail)
                                      go_cut [10] (fun v wx => (∃ w0, v = .float .f64 (fopR .quo (floatOfInt .f64 o.count) (floatOfInt .f64 (g.count + o.count)) w0)) ∧ Drawn wc wx)
                                      case first =>
                                        as_aux_lemma =>
                                          clear y' z' c0 nb HN HE n64 n64' HC9
                                          go_region
                                          all_goals
                                            go_wp2_with fail
                                            go_meet
                                            exact ⟨⟨_, rfl⟩, _, rfl⟩
                                      case rest =>
                                        as_aux_lemma =>
                                          obtain ⟨⟨w1, rfl⟩, hd⟩ := hcut
                                          have HG6 := Lib.hid (HG5.out.drawn hd)
                                          have HC10 := Lib.hid (HC9.out.trans (Chg.of_below hd.below [b, bc]))
                                          have k5 := (hd.cell ⟨d0, 0, none⟩).trans k5
                                          have h7 := HG6.out.c7
                                          have f6 := HG6.out.fz 6
                                          simp only at h7
                                          have kl9 := Nat.lt_of_lt_of_le kl8 hd.below.size
                                          clear hd HG5 HC9 h3 f2 kl8
                                          go_upto_region 28 with (fail)
                                          have HG7 := Lib.hid (HG6.out.drewN (fopN .mul (fopR .sub o.mean g.mean w0) (fopR .quo (floatOfInt .f64 o.count) (floatOfInt .f64 (g.count + o.count)) w1)))
                                          have HC11 := Lib.hid (HC10.out.drewN (fopN .mul (fopR .sub o.mean g.mean w0) (fopR .quo (floatOfInt .f64 o.count) (floatOfInt .f64 (g.count + o.count)) w1)))
                                          generalize hW : (wc.drewN (fopN .mul (fopR .sub o.mean g.mean w0) (fopR .quo (floatOfInt .f64 o.count) (floatOfInt .f64 (g.count + o.count)) w1))) = w9 at *
                                          have k5 : w9.cell? ⟨d0, 0, none⟩ = some (.int .i64 o.count) := by rw [← hW]; exact k5
                                          have h7 := HG7.out.c7
                                          have f6 := HG7.out.fz 6
                                          simp only at h7
                                          have kl10 : d0 < w9.heap.size := by rw [← hW]; exact kl9
                                          clear hW HG6 HC10 kl9
                                          go_cut [] (fun wx => RefG wx b bc bb { g with cs := fun i => g.cs i + o.cs i, nans := g.nans + o.nans, least := if key o.least < key g.least then o.least else g.least, greatest := if key g.greatest < key o.greatest then o.greatest else g.greatest, mean := mergeMean g o } ∧ Chg [b] w9 wx)
                                          case first =>
                                            as_aux_lemma =>
                                              go_wp2_with (go_at_call 49; refine (refcanon_any (fopR_lt _ _ _ _) _).mono ?_; rintro e w' ⟨rfl, rfl⟩)
                                              go_meet
                                              rw [canon_mean2]
                                              exact ⟨(HG7.out.drewN _).set7 _, ((Chg.refl [b] w9).drewN _).setCell (.inl (by simp)) _⟩
                                          case rest =>
                                            as_aux_lemma =>
                                              obtain ⟨hG8, hC8⟩ := hcut
                                              have k5 := (hC8.cell (p := ⟨d0, 0, none⟩) kl10 (by simp; omega)).trans k5
                                              have h3 := hG8.c3
                                              have f2 := hG8.fz 2
                                              simp only at h3
                                              have HG9 := Lib.hid (hG8.set3 (g.count + o.count))
                                              have HC12 := Lib.hid (HC11.out.trans (hC8.mono (by simp)))
                                              clear hG8 hC8 HG7 HC11 h7 f6
                                              go_upto_region 29 with (fail)
                                              go_cut [] (fun wx => RefG wx b bc bb (merge g o) ∧ Chg [b] wc wx)
                                              case first =>
                                                as_aux_lemma =>
                                                  go_region
                                                  all_goals
                                                    go_wp2_with fail
                                                    go_meet
                                                    rw [E.out]
                                                    exact ⟨HG9.out.drewN 1, ((Chg.refl [b] wc).setCell (p := ⟨b, 2, none⟩) (.inl (by simp)) _).drewN 1⟩
                                              case rest =>
                                                as_aux_lemma =>
                                                  obtain ⟨hG10, hC10⟩ := hcut
                                                  have HR := Lib.hid (show RefG wc b bc bb (merge g o) ∧ Chg [b, bc] w wc from ⟨hG10, HC12.out.trans (hC10.mono (by simp))⟩)
                                                  clear hG10 hC10 HC12
                                                  go_wp2_with fail
                                                  go_ret
                                                  exact ⟨rfl, HR.out⟩
end Go.Proofs.Ytofjgnlolmaidaa
