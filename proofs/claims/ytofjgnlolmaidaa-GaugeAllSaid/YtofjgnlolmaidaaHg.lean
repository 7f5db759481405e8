/- Two gauges that tell the same. -/
import Derived.Test.YtofjgnlolmaidaaHd
import Derived.Test.YtofjgnlolmaidaaHb
import Derived.Deep.CutBlock
import Derived.Deep.DeepCutAuto
import Derived.BigQuiet
namespace Go.Proofs.Ytofjgnlolmaidaa
set_option linter.unusedVariables false
open Go.RowKit
attribute [local go_sem] run_store_float

theorem look55 (c n : Int) (l g m : Nat) (w : World) :
    Calls Try.prog 55 #[.agg #[.int .i64 c, .int .i64 n, .float .f64 l, .float .f64 g, .float .f64 m], .agg #[.int .i64 c, .int .i64 n, .float .f64 l, .float .f64 g, .float .f64 m]] w
      fun e w' => e = .returned (.bool true) ∧ Below w.heap.size w w' := by
  go_enter Try.func55, Try.ntmps55
  go_wp2_with (go_at_call 22; refine (bits22 _ _).mono ?_; rintro e w' ⟨rfl, rfl⟩)
  go_ret
  exact ⟨rfl, (((Below.refl _ _).alloc (Nat.le_refl _) _).alloc (by simp) _)⟩

theorem RefG.ints {w : World} {b bc bb : Nat} {g : Gau} (h : RefG w b bc bb g) : IntsAt w bc (g.n + 1) g.cs :=
  ⟨fun i hi => h.cel i (by omega), h.fc, h.lc⟩
theorem IntsAt.below {w w' : World} {d n B : Nat} {f : Nat → Int} (h : IntsAt w d n f) (hb : Below B w w') (hB : d < B) : IntsAt w' d n f :=
  ⟨fun i hi => (hb.cell (p := ⟨d, i, none⟩) hB).trans (h.cel i hi), fun o => (hb.frozen (p := ⟨d, o, none⟩) hB).trans (h.fz o), Nat.lt_of_lt_of_le h.lt hb.size⟩
theorem IntsAt.chg {w w' : World} {d n : Nat} {f : Nat → Int} {s : List Nat} (h : IntsAt w d n f) (hb : Chg s w w') (hd : d ∉ s) : IntsAt w' d n f :=
  ⟨fun i hi => (hb.cell (p := ⟨d, i, none⟩) h.lt hd).trans (h.cel i hi), fun o => (hb.frozen (p := ⟨d, o, none⟩) h.lt hd).trans (h.fz o), Nat.lt_of_lt_of_le h.lt hb.size⟩
theorem IntsAt.drawn {w w' : World} {d n : Nat} {f : Nat → Int} (h : IntsAt w d n f) (hd : Drawn w w') : IntsAt w' d n f := by
  obtain ⟨m, rfl⟩ := hd; exact ⟨h.cel, h.fz, h.lt⟩
theorem RefG.drawn' {w w' : World} {b bc bb : Nat} {g : Gau} (h : RefG w b bc bb g) (hd : Drawn w w') : RefG w' b bc bb g := by
  obtain ⟨n, rfl⟩ := hd; exact h.drewN n

set_option maxRecDepth 100000 in
set_option maxHeartbeats 1000000 in
theorem same34 {w : World} {b bc bb b' bc' bb' : Nat} {g : Gau} {B : Int} {sq : Option Addr} {lq cq : Nat} {q : Nat → Nat} (h : GaugeAt w b bc bb g) (h' : RefG w b' bc' bb' g) (hs : Sane g B) (hB : B ≤ 1000000000) (hq : FltAt w sq lq cq q) (lq30 : lq ≤ 30) :
    Calls Try.prog 34 #[.pointer (some ⟨b, 0, none⟩), .pointer (some ⟨b', 0, none⟩), .slice sq lq cq] w fun e w' => e = .returned (.bool true) ∧ Below w.heap.size w w' := by
  have n64 := hs.n64
  have C1 := Lib.hid (cells38 h hs.n64)
  have HH := Lib.hid h
  have HH' := Lib.hid h'
  have HS := Lib.hid hs
  have HQ := Lib.hid hq
  clear h h' hs hq
  go_enter Try.func34, Try.ntmps34
  go_wp2_with fail
  refine C1.out.mono ?_
  rintro e w1 ⟨d1, p1, rfl, hi1, ld1, hb1⟩
  have HG1 := Lib.hid (HH.out.chg (Chg.of_below hb1 []) (by simp) (by simp) (by simp))
  have C2 := Lib.hid (cells38 HG1.out n64)
  clear C1
  go_wp2_with fail
  refine C2.out.mono ?_
  rintro e w2 ⟨d2, p2, rfl, hi2, ld2, hb2⟩
  have HB2 := Lib.hid (hb1.trans (hb2.mono hb1.size))
  have HG2 := Lib.hid (HG1.out.chg (Chg.of_below hb2 []) (by simp) (by simp) (by simp))
  have HR2 := Lib.hid (HH'.out.chg (Chg.of_below HB2.out []) (by simp) (by simp) (by simp))
  have HI1 := Lib.hid (hi1.below hb2 hi1.lt)
  have HI2 := Lib.hid hi2
  have HQ2 := Lib.hid (HQ.out.below HB2.out (Nat.le_refl _))
  have x1 : d1 < d2 := Nat.lt_of_lt_of_le hi1.lt ld2
  clear C2 HG1 hi1 hi2 hb1 hb2
  obtain ⟨rcap, r1⟩ := HR2.out.c2
  have lr := HR2.out.lb
  have n65 : ((g.n + 1 : Nat) : Int) ≤ 1000 := by omega
  have C37 := Lib.hid (fun (w' : World) (hd : Drawn w2 w') (cap cap' : Nat) => cells37 (cap := cap) (cap' := cap') (HI1.out.drawn hd) (HR2.out.ints.drawn hd) n65)
  have C39 := Lib.hid (fun (w' : World) (hd : Drawn w2 w') => look39 (HG2.out.drawn hd))
  have m3 := HR2.out.c3; have m4 := HR2.out.c4; have m5 := HR2.out.c5; have m6 := HR2.out.c6; have m7 := HR2.out.c7
  go_upto_region 2 with (fail)
  go_cut [9] (fun v wx => v = .bool true ∧ Below w2.heap.size w2 wx)
  case first =>
    go_region_with (first
      | (go_at_call 37; refine (C37.out _ ⟨_, rfl⟩ _ _).mono ?_; rintro e w' ⟨rfl, nd, rfl⟩)
      | (go_at_call 39; refine (C39.out _ ⟨_, rfl⟩).mono ?_; rintro e w3 ⟨rfl, hb3⟩; have m3 := (hb3.cell (p := ⟨b', 2, none⟩) lr).trans m3; have m4 := (hb3.cell (p := ⟨b', 3, none⟩) lr).trans m4; have m5 := (hb3.cell (p := ⟨b', 4, none⟩) lr).trans m5; have m6 := (hb3.cell (p := ⟨b', 5, none⟩) lr).trans m6; have m7 := (hb3.cell (p := ⟨b', 6, none⟩) lr).trans m7)
      | (go_at_call 55; refine (look55 _ _ _ _ _ _).mono ?_; rintro e w4 ⟨rfl, hb4⟩))
    all_goals
      have hx := hb3.trans (hb4.mono hb3.size)
      go_wp2_with fail
      go_meet
      exact ⟨rfl, hx.os, hx.tape, hx.output, hx.size, hx.block⟩
  case rest =>
    obtain ⟨rfl, hb3⟩ := hcut
    have HI1 := Lib.hid (HI1.out.below hb3 (by have := HI1.out.lt; exact this))
    have HI2 := Lib.hid (HI2.out.below hb3 HI2.out.lt)
    have HR3 := Lib.hid (HR2.out.chg (Chg.of_below hb3 []) (by simp) (by simp) (by simp))
    have HG3 := Lib.hid (HG2.out.chg (Chg.of_below hb3 []) (by simp) (by simp) (by simp))
    have HQ3 := Lib.hid (HQ2.out.below hb3 (Nat.le_refl _))
    have HB3 := Lib.hid (HB2.out.trans (hb3.mono HB2.out.size))
    clear HR2 HG2 HQ2 HB2 C37 C39 m3 m4 m5 m6 m7 lr r1 hb3
    have hli : g.n + 1 ≤ 1000 := by omega
    go_wp2_with fail
    go_loopw [10] (fun i wr => ∃ k : Nat, k ≤ g.n + 1 ∧ i = .int .i64 k ∧ (∀ t, k ≤ t → t < g.n + 1 → wr.cell? ⟨d1, t, none⟩ = some (.int .i64 (g.cs t))) ∧ (∀ t, wr.frozen? ⟨d1, t, none⟩ = false) ∧ Chg [d1] wc wr) (fun i _ => g.n + 1 - (intOf i).toNat)
    case atStart => exact ⟨0, Nat.zero_le _, rfl, fun t _ ht => HI1.out.cel t ht, HI1.out.fz, Chg.refl _ _⟩
    case round =>
      obtain ⟨k, hk, rfl, hcl, hfz, hc⟩ := hrel
      by_cases hlt : k < g.n + 1
      · have hck := hcl k (Nat.le_refl _) hlt
        have HCL := Lib.hid hcl
        have hfk := hfz k
        have HFZ := Lib.hid hfz
        have HCC := Lib.hid hc
        clear hcl hfz hc
        go_wp2_with fail
        go_roundw
        case rel => exact ⟨k + 1, by omega, by go_num, fun t h1 h2 => (cell_other _ (addr_ne (by omega))).trans (HCL.out t (by omega) h2), by simpa using HFZ.out, HCC.out.setCell (.inl (by simp)) _⟩
        case measure => simp [intOf]; omega
      · have HB4 := Lib.hid (HB3.out.trans (hc.below HB3.out.size (by simp; omega)))
        have HQ4 := Lib.hid (HQ.out.below HB4.out (Nat.le_refl _))
        have HR4 := Lib.hid (HR3.out.chg hc (by have := HH'.out.lb; simp; omega) (by have := HH'.out.lc; simp; omega) (by have := HH'.out.lbb; simp; omega))
        have HG4 := Lib.hid (HG3.out.chg hc (by have := HH.out.lb; simp; omega) (by have := HH.out.lc; simp; omega) (by have := HH.out.lbb; simp; omega))
        have HI4 := Lib.hid (HI2.out.chg hc (by simp; omega))
        have Q30 := Lib.hid (fun x => quantile30 x HG4.out HS.out hB)
        have Q56 := Lib.hid (fun x => refquantile56 x HR4.out HS.out hB)
        have C37 := Lib.hid (fun (cap cap' : Nat) => cells37 (cap := cap) (cap' := cap') HI4.out HR4.out.ints n65)
        obtain ⟨rcap, r1⟩ := HR4.out.c2
        have hli30 : (lq : Int) ≤ 30 := by omega
        clear HI1 HR3 HG3 HQ3 HB3 HI2 hcl hfz hc
        go_wp2_with fail
        go_loop [9, 11] (fun v i => ∃ k : Nat, k ≤ lq ∧ v = .bool true ∧ i = .int .i64 k) (fun _ i => lq - (intOf i).toNat)
        case atStart => exact ⟨0, Nat.zero_le _, rfl, rfl⟩
        case round =>
          obtain ⟨j, hj, rfl, rfl⟩ := hrel
          by_cases hjl : j < lq
          · obtain ⟨qb, qo, rfl, _, hqc⟩ := HQ4.out.cel j hjl
            go_wp2_with (first
              | (go_at_call 30; (with_reducible refine (Q30.out _).mono ?_); rintro e w' ⟨rfl, rfl⟩)
              | (go_at_call 56; (with_reducible refine (Q56.out _).mono ?_); rintro e w' ⟨rfl, rfl⟩)
              | (go_at_call 22; refine (bits22 _ _).mono ?_; rintro e w' ⟨rfl, rfl⟩))
            go_round
            case rel => exact ⟨j + 1, by omega, by simp, by go_num⟩
            case measure => simp [intOf]; omega
          · go_wp2_with (go_at_call 37; (with_reducible refine (C37.out _ _).mono ?_); rintro e w' ⟨rfl, nd, rfl⟩)
            go_ret
            have hx := HB4.out
            exact ⟨rfl, hx.os, hx.tape, hx.output, hx.size, hx.block⟩
end Go.Proofs.Ytofjgnlolmaidaa
