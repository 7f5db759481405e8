/- The walk through PaceAll where the params are such. -/
import Derived.Test.YtofjgnlolmaidaaWl
import Derived.Deep.RegionHeld3
import Derived.Deep.DrawnRows
namespace Go.Proofs.Ytofjgnlolmaidaa
set_option linter.unusedVariables false
open Go.RowKit
attribute [local go_sem] run_store_float
attribute [local go_sem ↓] Go.wp_at_zero Go.wp_at_succ

theorem seenS_lt {most : Int} {s a : Nat} {n : Int} (g : Good s) (ha : Alpha a) (m : most ≤ 256) (h : s < 18446744073709551616) : seenS most a s n < 18446744073709551616 := by
  unfold seenS; split
  · rename_i c
    obtain ⟨_, _, _, _, e, _, _⟩ := step_spec g ha c.1 (by omega)
    exact add_lt64 e
  · exact h

/-- An element of the operations: four cells. -/
structure OpAt (w : World) (b off : Nat) (oS oN oB oA : Int) : Prop where
  c0 : w.cell? ⟨b, off, none⟩ = some (.int .i64 oS)
  c1 : w.cell? ⟨b, off + 1, none⟩ = some (.int .i64 oN)
  c2 : w.cell? ⟨b, off + 2, none⟩ = some (.int .i64 oB)
  c3 : w.cell? ⟨b, off + 3, none⟩ = some (.int .u64 oA)

/-- What holds at each round's head. -/
structure AllRel (w0 : World) (w : World) (bp br : Nat) (most bytes : Int) (l a s : Nat) : Prop where
  p : PaceAt w bp most bytes (Fl.rg l) a s
  r : RefAt w br most bytes l a s
  g : Good s
  sl : s < 18446744073709551616
  b : Below w0.heap.size w0 w
  p0 : w0.heap.size ≤ bp
  r0 : w0.heap.size ≤ br
  ne : bp ≠ br
  pl : bp < w.heap.size
  rl : br < w.heap.size

theorem AllRel.below {w0 w w' : World} {bp br : Nat} {most bytes : Int} {l a s : Nat} (h : AllRel w0 w bp br most bytes l a s) (hb : Below w.heap.size w w') : AllRel w0 w' bp br most bytes l a s :=
  ⟨h.p.below hb h.pl, h.r.below hb h.rl, h.g, h.sl, h.b.trans (hb.mono h.b.size), h.p0, h.r0, h.ne, Nat.lt_of_lt_of_le h.pl hb.size, Nat.lt_of_lt_of_le h.rl hb.size⟩

set_option maxRecDepth 100000 in
set_option maxHeartbeats 4000000 in
theorem all_ok (most bytes l a : Int) (sl : Option Addr) (len cap : Nat) (zs : Nat → Int × Int × Int × Int) (hl : 0 ≤ l ∧ l < 18446744073709551616) (hm : May most bytes l.toNat a.toNat) (w : World)
    (hlen : (len : Int) ≤ 9223372036854775807) (hsl : ∀ i, i < len → ∃ b off, sl = some ⟨b, off, none⟩ ∧ b < w.heap.size ∧ OpAt w b (off + i * 4) (zs i).1 (zs i).2.1 (zs i).2.2.1 (zs i).2.2.2) :
    Calls Try.prog 3 #[.int .i64 most, .int .i64 bytes, .int .u64 l, .int .u64 a, .slice sl len cap] w fun e w' => e = .returned (.bool true) ∧ Below w.heap.size w w' := by
  obtain ⟨fl, l0, _⟩ := may_linger hm
  have f19 := ext19
  have g1 := good_one
  have ha := may_alpha hm
  have m1 := hm.m1
  have m2 := hm.m2
  go_enter Try.func3, Try.ntmps3
  go_wp2_with fail
  refine (begun_any _).mono ?_
  rintro e w1 ⟨rfl, hB1⟩
  have l1 := hB1.size
  go_wp2_with fail
  refine (of_any _ _ _ _ _).mono ?_
  rintro e w2 ⟨rfl, hb2⟩
  have hB2 := hB1.trans (hb2.mono l1)
  have l2 := hB2.size
  clear hb2
  go_wp2_with fail
  refine (new_ok hm (by omega) _).mono ?_
  rintro e w3 ⟨rfl, hp3, hs3, hb3⟩
  have q3 := cells_of_block ((hb3.block w2.heap.size (by simp)).trans (alloc_at _ _ _ rfl))
  have q0 : w3.cell? ⟨w2.heap.size, 0, none⟩ = some (.int .i64 most) := q3 0
  have q1 : w3.cell? ⟨w2.heap.size, 1, none⟩ = some (.int .i64 bytes) := q3 1
  have q2 : w3.cell? ⟨w2.heap.size, 2, none⟩ = some (.float .f64 l.toNat) := q3 2
  have q4 : w3.cell? ⟨w2.heap.size, 3, none⟩ = some (.float .f64 a.toNat) := q3 3
  have hB3 := (hB2.alloc (by omega) _).trans (hb3.mono (by simp; omega))
  rw [show (w2.alloc (.cells #[.int .i64 most, .int .i64 bytes, .float .f64 l.toNat, .float .f64 a.toNat] 27)).heap.size + 1 = w2.heap.size + 2 from by simp] at hp3 ⊢
  have l3 : w2.heap.size + 2 < w3.heap.size := by simp at hs3; omega
  clear hb3 q3 hs3
  go_wp2_with fail
  refine (refnew_ok hm _).mono ?_
  rintro e w4 ⟨br, rfl, hr4, lb4, lr4, hb4⟩
  have hB4 := hB3.trans (hb4.mono (by omega))
  have hp4 := hp3.below hb4 (by omega)
  have R : AllRel w w4 (w2.heap.size + 2) br most bytes l.toNat a.toNat 4607182418800017408 := ⟨hp4, hr4, g1, by decide, hB4, by omega, by omega, by omega, by omega, lr4⟩
  clear hb4 q0 q1 q2 q4 hp3 hr4 hp4 hB1 hB2 hB3 hB4
  generalize w2.heap.size + 2 = bp at R ⊢
  clear l1 l2 l3 lb4 lr4
  go_wp2_with fail
  go_loopw [17] (fun i wr => ∃ (k : Nat) (s : Nat), k ≤ len ∧ i = .int .i64 k ∧ AllRel w wr bp br most bytes l.toNat a.toNat s) (fun i _ => len - (intOf i).toNat)
  case atStart => exact ⟨0, _, Nat.zero_le _, rfl, R⟩
  case round =>
    obtain ⟨k, s, hk, rfl, R⟩ := hrel
    by_cases hlt : k < len ∧ k < 300
    · obtain ⟨c1, c2⟩ := hlt
      obtain ⟨b, off, rfl, hbw, hop⟩ := hsl k c1
      have o0 := (R.b.cell (p := ⟨b, off + k * 4, none⟩) hbw).trans hop.c0
      have o1 := (R.b.cell (p := ⟨b, off + k * 4 + 1, none⟩) hbw).trans hop.c1
      have o2 := (R.b.cell (p := ⟨b, off + k * 4 + 2, none⟩) hbw).trans hop.c2
      have o3 := (R.b.cell (p := ⟨b, off + k * 4 + 3, none⟩) hbw).trans hop.c3
      clear hop hsl
      generalize (zs k).1 = oS at o0
      generalize (zs k).2.1 = oN at o1
      generalize (zs k).2.2.1 = oB at o2
      generalize (zs k).2.2.2 = oA at o3
      go_wp2_with fail
      have hb5 := (Below.refl wr.heap.size wr).alloc (Nat.le_refl _) (.cells #[.int .i64 oS, .int .i64 oN, .int .i64 oB, .int .u64 oA] 42)
      have q5 := alloc_at wr (.cells #[.int .i64 oS, .int .i64 oN, .int .i64 oB, .int .u64 oA] 42) _ rfl
      have l5 : wr.heap.size < (wr.alloc (.cells #[.int .i64 oS, .int .i64 oN, .int .i64 oB, .int .u64 oA] 42)).heap.size := by simp
      generalize wr.alloc (.cells #[.int .i64 oS, .int .i64 oN, .int .i64 oB, .int .u64 oA] 42) = w5 at hb5 q5 l5 ⊢
      have R5 := R.below hb5
      have b1 := R.pl
      have b2 := R.rl
      have b3 := R.b.size
      have b0 := R.ne
      clear o0 o1 o2 o3 hb5 R
      generalize wr.heap.size = ob at q5 l5 b1 b2 b3 ⊢
      refine (seen_any _ R5.p R5.g ha m1 m2).mono ?_
      rintro e w6 ⟨rfl, hp6, hg6⟩
      have hr6 := R5.r.grown hg6 R5.rl (by simp; omega)
      have hB6 := R5.b.trans (grown_below hg6 R5.p0 R5.b.size)
      have q6 := (hg6.block ob l5 (by simp; omega)).trans q5
      have e6 := cells_of_block q6
      have e60 : w6.cell? ⟨ob, 0, none⟩ = some (.int .i64 oS) := e6 0
      have l6 := hg6.size
      have z1 := R5.p0
      have z2 := R5.r0
      have sl5 := R5.sl
      have g5 := R5.g
      clear R5 hg6 e6 q5
      go_wp2_with fail
      refine (refseen_any _ hr6 g5 sl5 ha m1 m2).mono ?_
      rintro e w7 ⟨rfl, hr7, hg7⟩
      have hp7 := hp6.grown hg7 (by omega) (by simp; omega)
      have hB7 := hB6.trans (grown_below hg7 z2 hB6.size)
      have q7 := (hg7.block ob (by omega) (by simp; omega)).trans q6
      have l7 := hg7.size
      have R7 : AllRel w w7 bp br most bytes l.toNat a.toNat (seenS most a.toNat s oS) := ⟨hp7, hr7, seenS_good g5 ha m2, seenS_lt g5 ha m2 sl5, hB7, z1, z2, b0, by omega, by omega⟩
      have lo : ob < w7.heap.size := by omega
      clear hp6 hr6 hB6 hp7 hr7 hB7 hg7 e60 q6 g5 sl5
      generalize seenS most a.toNat s oS = s' at R7
      clear l5 l6 l7
      have e7 := cells_of_block q7
      have e71 : w7.cell? ⟨ob, 1, none⟩ = some (.int .i64 oN) := e7 1
      have e72 : w7.cell? ⟨ob, 2, none⟩ = some (.int .i64 oB) := e7 2
      have e73 : w7.cell? ⟨ob, 3, none⟩ = some (.int .u64 oA) := e7 3
      have lp := R7.pl
      clear e7
      go_upto_region 16 with fail
      go_cut [19] (fun v wx => ∃ g : Nat, v = .pointer (some ⟨g, 0, none⟩) ∧ w7.heap.size ≤ g ∧ g < wx.heap.size ∧ wx.cell? ⟨g, 0, none⟩ = some (.bool (planRes most bytes l.toNat s' oN oB oA.toNat).1) ∧ wx.cell? ⟨g, 1, none⟩ = some (.float .f64 (planRes most bytes l.toNat s' oN oB oA.toNat).2) ∧ Below w7.heap.size w7 wx)
      case first =>
        have A1 : PaceAt w7.drew bp most bytes (Fl.rg l.toNat) a.toNat s' := R7.p.drewN 1
        have A2 : PaceAt (w7.alloc (.cells #[.bool false, .float .f64 0] 39)).drew bp most bytes (Fl.rg l.toNat) a.toNat s' := R7.p.below (((Below.refl w7.heap.size w7).alloc (Nat.le_refl _) (.cells #[.bool false, .float .f64 0] 39)).drew) lp
        have C1 := Lib.hid (plan_any oN oB oA.toNat fl l0 (by omega) A1 lp R7.g m1 m2)
        have C2 := Lib.hid (plan_any oN oB oA.toNat fl l0 (by omega) A2 (by simp; omega) R7.g m1 m2)
        have n1 := World.new_ne w7 _ e71
        have n2 := World.new_ne w7 _ e72
        have n3 := World.new_ne w7 _ e73
        go_region_held3 (fun w' => w'.cell? ⟨ob, 1, none⟩ = some (.int .i64 oN) ∧ w'.cell? ⟨ob, 2, none⟩ = some (.int .i64 oB) ∧ w'.cell? ⟨ob, 3, none⟩ = some (.int .u64 oA)) (go_keep) (first
          | (go_at_call 17; (with_reducible refine C1.out.mono ?_); rintro e w8 ⟨rfl, hb8⟩; have s1 := (hb8.cell (p := ⟨ob, 1, none⟩) lo).trans e71; have s2 := (hb8.cell (p := ⟨ob, 2, none⟩) lo).trans e72; have s3 := (hb8.cell (p := ⟨ob, 3, none⟩) lo).trans e73)
          | (go_at_call 17; (with_reducible refine C2.out.mono ?_); rintro e w8 ⟨rfl, hb8⟩; have s1 := (hb8.cell (p := ⟨ob, 1, none⟩) (by simp; omega)).trans ((cell_old w7 _ _ _ lo).trans e71); have s2 := (hb8.cell (p := ⟨ob, 2, none⟩) (by simp; omega)).trans ((cell_old w7 _ _ _ lo).trans e72); have s3 := (hb8.cell (p := ⟨ob, 3, none⟩) (by simp; omega)).trans ((cell_old w7 _ _ _ lo).trans e73); have k0 := (hb8.cell (p := ⟨w7.heap.size, 0, none⟩) (by simp)).trans (cell_new w7 _ _ _ _ rfl); have k1 := (hb8.cell (p := ⟨w7.heap.size, 1, none⟩) (by simp)).trans (cell_new w7 _ _ _ _ rfl); have k2 := (hb8.frozen (p := ⟨w7.heap.size, 0, none⟩) (by simp)); have k3 := (hb8.frozen (p := ⟨w7.heap.size, 1, none⟩) (by simp))))
        all_goals go_wp2_with fail; go_meet
        · exact ⟨w8.heap.size, rfl, hb8.size, by simp, cell_new _ _ _ _ _ rfl, cell_new _ _ _ _ _ rfl, ((Below.refl w7.heap.size w7).drew.trans hb8).alloc hb8.size _⟩
        all_goals
          refine ⟨w7.heap.size, rfl, Nat.le_refl _, by (have := hb8.size; simp at this ⊢; omega), (cell_other _ (by simp)).trans (cell_same _ k0), cell_same _ ((cell_other _ (by simp)).trans k1), ?_⟩
          exact ((((Below.refl w7.heap.size w7).alloc (Nat.le_refl _) (.cells #[.bool false, .float .f64 0] 39)).drew.trans (hb8.mono (by simp))).setCell (Nat.le_refl _) _).setCell (Nat.le_refl _) _
      case rest =>
        obtain ⟨ga, rfl, ga1, ga2, ca0, ca1, hbc⟩ := hcut
        have R8 := R7.below hbc
        have e81 := (hbc.cell (p := ⟨ob, 1, none⟩) lo).trans e71
        have e82 := (hbc.cell (p := ⟨ob, 2, none⟩) lo).trans e72
        have e83 := (hbc.cell (p := ⟨ob, 3, none⟩) lo).trans e73
        have lo8 : ob < wc.heap.size := by have := hbc.size; omega
        have lr := R8.rl
        have lh := R7.b.size
        clear R7 hbc e71 e72 e73 lo lp q7
        go_upto_region 17 with fail
        generalize hwc : wc = wb at *
        clear hwc
        go_cut [20] (fun v wx => ∃ g : Nat, v = .pointer (some ⟨g, 0, none⟩) ∧ wb.heap.size ≤ g ∧ g < wx.heap.size ∧ wx.cell? ⟨g, 0, none⟩ = some (.bool (planRes most bytes l.toNat s' oN oB oA.toNat).1) ∧ wx.cell? ⟨g, 1, none⟩ = some (.float .f64 (planRes most bytes l.toNat s' oN oB oA.toNat).2) ∧ Below wb.heap.size wb wx)
        case first =>
          have A1 : RefAt wb.drew br most bytes l.toNat a.toNat s' := R8.r.drewN 1
          have A2 : RefAt (wb.alloc (.cells #[.bool false, .float .f64 0] 39)).drew br most bytes l.toNat a.toNat s' := R8.r.below (((Below.refl wb.heap.size wb).alloc (Nat.le_refl _) (.cells #[.bool false, .float .f64 0] 39)).drew) lr
          have C1 := Lib.hid (refplan_any oN oB oA.toNat fl l0 A1 lr R8.g m1 m2)
          have C2 := Lib.hid (refplan_any oN oB oA.toNat fl l0 A2 (by simp; omega) R8.g m1 m2)
          have n1 := World.new_ne wb _ e81
          have n2 := World.new_ne wb _ e82
          have n3 := World.new_ne wb _ e83
          go_region_held3 (fun w' => w'.cell? ⟨ob, 1, none⟩ = some (.int .i64 oN) ∧ w'.cell? ⟨ob, 2, none⟩ = some (.int .i64 oB) ∧ w'.cell? ⟨ob, 3, none⟩ = some (.int .u64 oA)) (go_keep) (first
            | (go_at_call 20; (with_reducible refine C1.out.mono ?_); rintro e w8 ⟨rfl, hb8⟩; have s1 := (hb8.cell (p := ⟨ob, 1, none⟩) lo8).trans e81; have s2 := (hb8.cell (p := ⟨ob, 2, none⟩) lo8).trans e82; have s3 := (hb8.cell (p := ⟨ob, 3, none⟩) lo8).trans e83)
            | (go_at_call 20; (with_reducible refine C2.out.mono ?_); rintro e w8 ⟨rfl, hb8⟩; have s1 := (hb8.cell (p := ⟨ob, 1, none⟩) (by simp; omega)).trans ((cell_old wb _ _ _ lo8).trans e81); have s2 := (hb8.cell (p := ⟨ob, 2, none⟩) (by simp; omega)).trans ((cell_old wb _ _ _ lo8).trans e82); have s3 := (hb8.cell (p := ⟨ob, 3, none⟩) (by simp; omega)).trans ((cell_old wb _ _ _ lo8).trans e83); have k0 := (hb8.cell (p := ⟨wb.heap.size, 0, none⟩) (by simp)).trans (cell_new wb _ _ _ _ rfl); have k1 := (hb8.cell (p := ⟨wb.heap.size, 1, none⟩) (by simp)).trans (cell_new wb _ _ _ _ rfl); have k2 := (hb8.frozen (p := ⟨wb.heap.size, 0, none⟩) (by simp)); have k3 := (hb8.frozen (p := ⟨wb.heap.size, 1, none⟩) (by simp))))
          all_goals go_wp2_with fail; go_meet
          · exact ⟨w8.heap.size, rfl, hb8.size, by simp, cell_new _ _ _ _ _ rfl, cell_new _ _ _ _ _ rfl, ((Below.refl wb.heap.size wb).drew.trans hb8).alloc hb8.size _⟩
          all_goals
            refine ⟨wb.heap.size, rfl, Nat.le_refl _, by (have := hb8.size; simp at this ⊢; omega), (cell_other _ (by simp)).trans (cell_same _ k0), cell_same _ ((cell_other _ (by simp)).trans k1), ?_⟩
            exact ((((Below.refl wb.heap.size wb).alloc (Nat.le_refl _) (.cells #[.bool false, .float .f64 0] 39)).drew.trans (hb8.mono (by simp))).setCell (Nat.le_refl _) _).setCell (Nat.le_refl _) _
        case rest =>
          obtain ⟨gb, rfl, gb1, gb2, cb0, cb1, hbd⟩ := hcut
          have R9 := R8.below hbd
          have ca0' := (hbd.cell (p := ⟨ga, 0, none⟩) ga2).trans ca0
          have ca1' := (hbd.cell (p := ⟨ga, 1, none⟩) ga2).trans ca1
          have p9 := R9.p
          have r9 := R9.r
          have g9 := R9.g
          clear R8 hbd ca0 ca1 e81 e82 e83
          generalize (planRes most bytes l.toNat s' oN oB oA.toNat).1 = G at *
          generalize (planRes most bytes l.toNat s' oN oB oA.toNat).2 = WT at *
          go_wp2_with (first
            | (go_at_call 16; refine (want_any p9 g9 m1 m2).mono ?_; rintro e w' ⟨rfl, rfl⟩)
            | (go_at_call 21; refine (refwant_any r9 g9 m1 m2).mono ?_; rintro e w' ⟨rfl, rfl⟩)
            | (go_at_call 22; refine (bits_eq _ _).mono ?_; rintro e w' ⟨rfl, rfl⟩))
          go_roundw
          case rel => exact ⟨k + 1, s', by omega, by go_num, R9⟩
          case measure => simp [intOf]; omega
    · have hx : ¬ k < len ∨ (k < len ∧ ¬ k < 300) := by omega
      have hB := R.b
      clear hlt
      rcases hx with c1 | ⟨c1, c2⟩
      all_goals
        go_wp2_with fail
        go_ret
        exact ⟨rfl, hB⟩
end Go.Proofs.Ytofjgnlolmaidaa
