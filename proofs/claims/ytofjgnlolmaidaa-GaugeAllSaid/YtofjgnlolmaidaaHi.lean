/- The walk through GaugeAll, up to the gauges. -/
import Derived.Test.YtofjgnlolmaidaaHh
import Derived.Test.YtofjgnlolmaidaaHg
import Derived.Test.YtofjgnlolmaidaaHf
import Derived.Test.YtofjgnlolmaidaaHc
namespace Go.Proofs.Ytofjgnlolmaidaa
set_option linter.unusedVariables false
open Go.RowKit
attribute [local go_sem] run_store_float

/-- The row of the bounds and one more, cut back to the bounds. -/
theorem row_flt {w : World} {B n : Nat} {v : Value} {f : Nat → Nat} {x : Value} (h : w.ownsRow B 25 1 v (n + 1) (fls2 f n ++ [x])) : ∃ g c, v = .slice (some ⟨g, 0, none⟩) (n + 1) c ∧ n + 1 ≤ c ∧ B ≤ g ∧ g < w.heap.size ∧ (∀ i, i < n → w.cell? ⟨g, i, none⟩ = some (.float .f64 (f i))) ∧ (∀ i, w.frozen? ⟨g, i, none⟩ = false) := by
  have hh := h
  rcases h.2 with ⟨_, h0⟩ | ⟨g, c, cur, rfl, hB, hcur, hnc, _, hsz, htk⟩
  · omega
  · refine ⟨g, c, rfl, hnc, hB, (hh.lt g rfl).2, fun i hi => ?_, fun i => ?_⟩
    · refine (hh.cellAt i (by omega)).trans ?_
      rw [List.getElem?_append_left (by simp [fls2]; exact hi)]
      exact fls2_get hi
    · unfold World.frozen?; rw [hcur]; simp

theorem wpList_append_zero {ops : Array Oper} {rest : List Oper} {o : Oper} {a : Act} {w : World} {Q : Exit → Act → World → Prop} (hg : o.guard = none) (x : Operand)
    (hop : o.op = Op.call { callee := Callee.builtin Builtin.append, args := #[.const (.slice none 0 0), x], argTypes := #[56, 56] }) (hty : o.type = 56)
    (sl : Option Addr) (c : Nat) (hx : a.eval x = .slice sl 0 c)
    (hK : wpList Try.prog ops Q rest (a.put o.dst (.slice none 0 0)) w) :
    wpList Try.prog ops Q (o :: rest) a w := by
  refine wpList_plain hg fun K hK' => ?_
  have hrun := run_append_none sl c w
  have hK2 := hK' _ _ hK
  unfold Oper.wp
  simp only [execOp, hop, hty, resolve, invoke, builtin]
  have hx' := hx
  cases x <;> simp only [Act.eval] at hx' <;> simp [Act.eval, hx', hrun, Result.andThen] <;> exact hK2

/-- The code that New answers. -/
def CodeIs (n : Nat) (bs : Nat → Nat) (c : Int) : Prop := (64 < n ∧ c = 9) ∨ (n ≤ 64 ∧ Fit n bs ∧ c = 0) ∨ (n ≤ 64 ∧ ¬ Fit n bs ∧ c = 1)
theorem CodeIs.one {n : Nat} {bs : Nat → Nat} {c c' : Int} (h : CodeIs n bs c) (h' : CodeIs n bs c') : c = c' := by
  rcases h with ⟨a, rfl⟩ | ⟨a, b, rfl⟩ | ⟨a, b, rfl⟩ <;> rcases h' with ⟨a', rfl⟩ | ⟨a', b', rfl⟩ | ⟨a', b', rfl⟩ <;> first | rfl | omega | exact absurd b b' | exact absurd b' b
theorem CodeIs.ok {n : Nat} {bs : Nat → Nat} {c : Int} (h : CodeIs n bs c) (h0 : c = 0) : n ≤ 64 ∧ Fit n bs := by
  rcases h with ⟨a, rfl⟩ | ⟨a, b, rfl⟩ | ⟨a, b, rfl⟩
  · cases h0
  · exact ⟨a, b⟩
  · cases h0
/-- What making the other gauge leaves. -/
def MadeG (w : World) (n : Nat) (bs : Nat → Nat) (c : Int) (v : Value) (w' : World) : Prop :=
  CodeIs n bs c ∧ (c = 0 → ∃ b bc bb, v = .pointer (some ⟨b, 0, none⟩) ∧ GaugeAt w' b bc bb (gau0 n bs) ∧ w.heap.size ≤ b ∧ w.heap.size ≤ bc ∧ w.heap.size ≤ bb) ∧ (c ≠ 0 → v = .pointer none) ∧ Below w.heap.size w w'
def MadeR (w : World) (n : Nat) (bs : Nat → Nat) (c : Int) (v : Value) (w' : World) : Prop :=
  CodeIs n bs c ∧ (c = 0 → ∃ b bc bb, v = .pointer (some ⟨b, 0, none⟩) ∧ RefG w' b bc bb (gau0 n bs) ∧ w.heap.size ≤ b ∧ w.heap.size ≤ bc ∧ w.heap.size ≤ bb) ∧ (c ≠ 0 → v = .pointer none) ∧ Below w.heap.size w w'

theorem oth_of {wa wb wc : World} {n : Nat} {bs : Nat → Nat} {c : Int} {v v' : Value} (h : MadeG wa n bs c v wb) (h' : MadeR wb n bs c v' wc) : Oth wa.heap.size wc.heap.size n bs c v v' wc := by
  refine ⟨fun h0 => ?_, fun h0 => ⟨h.2.2.1 h0, h'.2.2.1 h0⟩⟩
  obtain ⟨b, bc, bb, e, hg, g1, g2, g3⟩ := h.2.1 h0
  obtain ⟨b', bc', bb', e', hr, r1, r2, r3⟩ := h'.2.1 h0
  have hb := h'.2.2.2
  have k1 := hb.size
  have k2 := h.2.2.2.size
  have a1 := hg.lb; have a2 := hg.lc; have a3 := hg.lbb
  have a4 := hr.lb; have a5 := hr.lc; have a6 := hr.lbb
  exact ⟨b, bc, bb, b', bc', bb', e, e', hg.chg (Chg.of_below hb []) (by simp) (by simp) (by simp), hr, by omega, by omega⟩

theorem pn_n (g : Gau) (f : Nat → Nat) : ∀ k, (pn g f k).n = g.n
  | 0 => rfl
  | k + 1 => (put_n _ _).trans (pn_n g f k)
theorem pn_bs (g : Gau) (f : Nat → Nat) : ∀ k, (pn g f k).bs = g.bs
  | 0 => rfl
  | k + 1 => (put_bs _ _).trans (pn_bs g f k)

set_option maxRecDepth 100000 in
set_option maxHeartbeats 40000000 in
theorem gall_walk (s0 : Option Addr) (l0 p0 : Nat) (z0 : Nat → Int) (s1 : Option Addr) (l1 p1 : Nat) (z1 : Nat → Int) (s2 : Option Addr) (l2 p2 : Nat) (z2 : Nat → Int) (s3 : Option Addr) (l3 p3 : Nat) (z3 : Nat → Int) (s4 : Option Addr) (l4 p4 : Nat) (z4 : Nat → Int) (w : World)
    (h0 : l0 * 8 ≤ 140737488351232) (h1 : l1 * 8 ≤ 140737488351232) (h2 : l2 * 8 ≤ 140737488351232) (h3 : l3 * 8 ≤ 140737488351232) (h4 : l4 * 8 ≤ 140737488351232)
    (k0 : ∀ i, (z0 i).toNat < 18446744073709551616) (k1 : ∀ i, (z1 i).toNat < 18446744073709551616) (k2 : ∀ i, (z2 i).toNat < 18446744073709551616) (k3 : ∀ i, (z3 i).toNat < 18446744073709551616)
    (c0 : ∀ i, i < l0 → ∃ b off, s0 = some ⟨b, off, none⟩ ∧ b < w.heap.size ∧ w.cell? ⟨b, off + i, none⟩ = some (.int .u64 (z0 i)))
    (c1 : ∀ i, i < l1 → ∃ b off, s1 = some ⟨b, off, none⟩ ∧ b < w.heap.size ∧ w.cell? ⟨b, off + i, none⟩ = some (.int .u64 (z1 i)))
    (c2 : ∀ i, i < l2 → ∃ b off, s2 = some ⟨b, off, none⟩ ∧ b < w.heap.size ∧ w.cell? ⟨b, off + i, none⟩ = some (.int .u64 (z2 i)))
    (c3 : ∀ i, i < l3 → ∃ b off, s3 = some ⟨b, off, none⟩ ∧ b < w.heap.size ∧ w.cell? ⟨b, off + i, none⟩ = some (.int .u64 (z3 i)))
    (c4 : ∀ i, i < l4 → ∃ b off, s4 = some ⟨b, off, none⟩ ∧ b < w.heap.size ∧ w.cell? ⟨b, off + i, none⟩ = some (.int .u64 (z4 i))) :
    Calls Try.prog 8 #[.slice s0 l0 p0, .slice s1 l1 p1, .slice s2 l2 p2, .slice s3 l3 p3, .slice s4 l4 p4] w fun e w' => e = .returned (.bool true) ∧ Below w.heap.size w w' := by
  have C0 := Lib.hid c0; have C1 := Lib.hid c1; have C2 := Lib.hid c2; have C3 := Lib.hid c3; have C4 := Lib.hid c4
  have K0 := Lib.hid k0; have K1 := Lib.hid k1; have K2 := Lib.hid k2; have K3 := Lib.hid k3
  clear c0 c1 c2 c3 c4 k0 k1 k2 k3
  go_enter Try.func8, Try.ntmps8
  go_wp2_with fail
  refine (begun24 _).mono ?_
  rintro e w1 ⟨rfl, hb1⟩
  by_cases hz : 300 < l1 ∨ 300 < l2 ∨ 30 < l4 ∨ 100 < l0
  · have hz' : (300 : Int) < (l1 : Int) ∨ (¬ (300 : Int) < (l1 : Int) ∧ (300 : Int) < (l2 : Int)) ∨ (¬ (300 : Int) < (l1 : Int) ∧ ¬ (300 : Int) < (l2 : Int) ∧ (30 : Int) < (l4 : Int)) ∨ (¬ (300 : Int) < (l1 : Int) ∧ ¬ (300 : Int) < (l2 : Int) ∧ ¬ (30 : Int) < (l4 : Int) ∧ (100 : Int) < (l0 : Int)) := by omega
    clear hz
    rcases hz' with hz | ⟨hz, hy⟩ | ⟨hz, hy, hx⟩ | ⟨hz, hy, hx, hv⟩
    all_goals
      go_wp2_with fail
      go_ret
      exact ⟨rfl, hb1⟩
  · have y1 : ¬ (300 : Int) < (l1 : Int) := by omega
    have y2 : ¬ (300 : Int) < (l2 : Int) := by omega
    have y3 : ¬ (30 : Int) < (l4 : Int) := by omega
    have y4 : ¬ (100 : Int) < (l0 : Int) := by omega
    have m0 : l0 ≤ 100 := by omega
    have m1 : l1 ≤ 300 := by omega
    have m2 : l2 ≤ 300 := by omega
    have m4 : l4 ≤ 30 := by omega
    clear hz
    go_wp2_with fail
    refine (of31 s0 l0 p0 z0 w1 h0 (arg_below C0.out hb1)).mono ?_
    rintro e w2 ⟨sb, cb, rfl, fb, hb2⟩
    have hB2 := hb1.trans (hb2.mono hb1.size)
    clear hb1 hb2 y1 y2 y3 y4
    have FB := Lib.hid fb
    have HB2 := Lib.hid hB2
    clear fb hB2
    go_upto_region 6 with (fail)
    go_cut [12] (fun v wx => ∃ gh hc : Nat, v = .slice (some ⟨gh, 0, none⟩) l0 hc ∧ w2.heap.size ≤ gh ∧ gh < wx.heap.size ∧ (∀ i, i < l0 → wx.cell? ⟨gh, i, none⟩ = some (.float .f64 (z0 i).toNat)) ∧ (∀ i, wx.frozen? ⟨gh, i, none⟩ = false) ∧ Below w2.heap.size w2 wx)
    case first =>
      as_aux_lemma =>
        obtain ⟨i0, hi, hz0, hz1, hz2⟩ := info_parts (show (Try.prog.info? 25).map (fun i => (i.zero, i.size, i.bytes)) = some (some (.float .f64 0), 1, 8) from by kernel_rfl)
        have hlen : (fls2 (fun i => (z0 i).toNat) l0).length = l0 := by simp [fls2]
        have HL := Lib.hid hlen
        clear hlen
        by_cases hz : l0 = 0
        · subst hz
          go_wp2_with (first
            | (at_builtin; refine wpList_append_zero (by rfl) (.tmp 49) (by rfl) (by rfl) sb cb (by rfl) ?_)
            | (at_builtin; refine wpList_append_own _ rfl (.tmp 50) (.tmp 51) 56 rfl w2.heap.size 25 i0 (.float .f64 0) 1 8 Try.underlying56 hi hz0 hz1 hz2 rfl (by decide) (.slice none 0 0) 0 [] rfl (World.ownsRow_nil _ _ _ _) ⟨w2.heap.size, 0, none⟩ 1 1 [.float .f64 4619567317775286272] rfl rfl ?c1 ?c2 ?c3 ?c4 ?c5 ?_))
          case c1 =>
            intro j u hj
            match j, hj with
            | 0, hj => simp at hj; subst hj; simp [Addr.add]
          case c2 => intro u hu; simp at hu; subst hu; rfl
          case c3 => unfold maxLen; omega
          case c4 => omega
          case c5 => simp
          · intro v' w4 hown' hgrow _
            have hb4 := below_own ((Below.refl w2.heap.size w2).alloc (Nat.le_refl _) _) (World.ownsRow_nil _ _ _ _) hgrow (by simp)
            obtain ⟨gh, ch, rfl, hnc, hgB, hgl, hcel, hfz⟩ := row_flt (n := 0) (f := fun i => (z0 i).toNat) hown'
            clear hown' hgrow
            have CE := Lib.hid hcel
            have FZ := Lib.hid hfz
            have HB4 := Lib.hid hb4
            clear hcel hfz hb4
            go_wp2_with fail
            go_meet
            exact ⟨gh, _, rfl, hgB, hgl, CE.out, FZ.out, HB4.out⟩
        · have hn0 : 0 < l0 := by omega
          obtain ⟨gb, ob, rfl, hgb, _⟩ := FB.out.cel 0 hn0
          have hnews : ∀ (j : Nat) u, (fls2 (fun i => (z0 i).toNat) l0)[j]? = some u → w2.cell? ((⟨gb, ob, none⟩ : Addr).add j) = some u := by
            intro j u hj
            obtain ⟨hj1, hj2⟩ := List.getElem?_eq_some_iff.1 hj
            have hj3 : j < l0 := by simpa [fls2] using hj1
            obtain ⟨b', off', e', _, hc'⟩ := FB.out.cel j hj3
            injection e' with e'
            injection e' with e1 e2
            subst e1; subst e2
            rw [add_lit', hc', ← fls2_get (f := fun i => (z0 i).toNat) hj3, hj]
          have hone : ∀ u ∈ fls2 (fun i => (z0 i).toNat) l0, u.oneCell' = true := by
            intro u hu
            simp [fls2] at hu
            obtain ⟨a, _, rfl⟩ := hu
            rfl
          have NW := Lib.hid hnews
          have ON := Lib.hid hone
          clear hnews hone hz
          go_wp2_with (at_builtin; refine wpList_append_own _ rfl (.const (.slice none 0 0)) (.tmp 49) 56 rfl w2.heap.size 25 i0 (.float .f64 0) 1 8 Try.underlying56 hi hz0 hz1 hz2 rfl (by decide) (.slice none 0 0) 0 [] rfl (World.ownsRow_nil _ _ _ _) ⟨gb, ob, none⟩ l0 cb (fls2 (fun i => (z0 i).toNat) l0) rfl (HL.out.trans (Nat.mul_one _).symm) NW.out ON.out ?c3 ?c4 (Nat.le_refl _) ?_)
          case c3 => unfold maxLen; omega
          case c4 => omega
          intro v1 w3 hown1 hgrow1 _
          have hb3 := below_own (Below.refl w2.heap.size w2) (World.ownsRow_nil _ _ _ _) hgrow1 (by simp)
          have HO := Lib.hid hown1
          have HB3 := Lib.hid hb3
          have hs3 := hb3.size
          clear hown1 hgrow1 hb3
          go_wp2_with (at_builtin; refine wpList_append_own _ rfl (.tmp 50) (.tmp 51) 56 rfl w2.heap.size 25 i0 (.float .f64 0) 1 8 Try.underlying56 hi hz0 hz1 hz2 rfl (by decide) _ l0 (fls2 (fun i => (z0 i).toNat) l0) rfl (HO.out.alloc _) ⟨w3.heap.size, 0, none⟩ 1 1 [.float .f64 4619567317775286272] rfl rfl ?c1 ?c2 ?c3 ?c4 ?c5 ?_)
          case c1 =>
            intro j u hj
            match j, hj with
            | 0, hj => simp at hj; subst hj; simp [Addr.add]
          case c2 => intro u hu; simp at hu; subst hu; rfl
          case c3 => unfold maxLen; omega
          case c4 => omega
          case c5 => simp; omega
          intro v' w4 hown' hgrow _
          have hb4 := below_own (HB3.out.alloc hs3 _) (HO.out.alloc _) hgrow (by simp; omega)
          obtain ⟨gh, ch, rfl, hnc, hgB, hgl, hcel, hfz⟩ := row_flt (n := l0) (f := fun i => (z0 i).toNat) hown'
          clear hown' hgrow
          have CE := Lib.hid hcel
          have FZ := Lib.hid hfz
          have HB4 := Lib.hid hb4
          clear hcel hfz hb4
          go_wp2_with fail
          go_meet
          exact ⟨gh, _, rfl, hgB, hgl, CE.out, FZ.out, HB4.out⟩
    case rest =>
      as_aux_lemma =>
        obtain ⟨wA, rfl⟩ : ∃ x : World, x = wc := ⟨_, rfl⟩
        obtain ⟨gh, hcap, rfl, hgB, hgl, hcel, hfz, hbh⟩ := hcut
        have HB3 := Lib.hid (HB2.out.trans (hbh.mono HB2.out.size))
        have FB3 := Lib.hid (FB.out.below hbh (Nat.le_refl _))
        have FH : Hid (FltAt wA (some ⟨gh, 0, none⟩) l0 hcap (fun i => (z0 i).toNat)) := Lib.hid ⟨fun i hi => ⟨gh, 0, rfl, hgl, by rw [Nat.zero_add]; exact hcel i hi⟩, nofun⟩
        have FZ := Lib.hid hfz
        have CE := Lib.hid hcel
        have l2s := HB2.out.size
        have FBW := FB
        clear HB2 hcel hfz hbh
        by_cases hmany : 64 < l0
        · go_wp2_with (first
            | (go_at_call 28; (with_reducible refine (new28_many _ l0 _ hmany (by omega) _).mono ?_); rintro e w' ⟨rfl, rfl⟩)
            | (go_at_call 32; (with_reducible refine (new32_many _ l0 _ hmany (by omega) _).mono ?_); rintro e w' ⟨rfl, rfl⟩))
          go_ret
          exact ⟨rfl, HB3.out⟩
        · have N1 := Lib.hid (new28 (some ⟨gh, 0, none⟩) l0 hcap (fun i => (z0 i).toNat) (by omega) _ (fun i _ => K0.out i) FH.out.cel FH.out.nil)
          go_wp2_with fail
          refine N1.out.mono ?_
          clear N1 FH
          rintro e w5 (⟨hfit, b1, q1, d1, rfl, hg1, lb1, lc1, ld1, hb5⟩ | ⟨hnf, rfl, rfl⟩)
          · have FB5 := Lib.hid (FB3.out.below hb5 (Nat.le_refl _))
            have N2 := Lib.hid (new32 sb l0 cb (fun i => (z0 i).toNat) (by omega) w5 (fun i _ => K0.out i) FB5.out)
            have FIT := Lib.hid hfit
            have HB5 := Lib.hid (HB3.out.trans (hb5.mono HB3.out.size))
            clear hfit FB3
            go_wp2_with fail
            refine N2.out.mono ?_
            clear N2
            rintro e w6 (⟨_, b2, q2, d2, rfl, hr2, lb2, lc2, ld2, hb6⟩ | ⟨hnf, rfl, _⟩)
            · have CE6 := Lib.hid (fun i (hi : i < l0) => (hb6.cell (p := ⟨gh, i, none⟩) (by have := hb5.size; show gh < _; omega)).trans ((hb5.cell (p := ⟨gh, i, none⟩) hgl).trans (CE.out i hi)))
              have FZ6 := Lib.hid (fun i => (hb6.frozen (p := ⟨gh, i, none⟩) (by have := hb5.size; show gh < _; omega)).trans ((hb5.frozen (p := ⟨gh, i, none⟩) hgl).trans (FZ.out i)))
              have FB6 := Lib.hid (FB5.out.below hb6 (Nat.le_refl _))
              have HG6 := Lib.hid (hg1.chg (Chg.of_below hb6 []) (by simp) (by simp) (by simp))
              have HR6 := Lib.hid hr2
              have HB6 := Lib.hid (HB5.out.trans (hb6.mono HB5.out.size))
              have x1 := hg1.lb; have x2 := hg1.lc; have x3 := hg1.lbb
              have x4 := hr2.lb; have x5 := hr2.lc; have x6 := hr2.lbb
              have y5 := hb5.size
              have y6 := hb6.size
              have l60 := HB3.out.size
              clear hg1 hr2 hb5 hb6 CE FZ FB5 HB5
              go_upto_block 0 with (fail)
              go_cut [] (fun wx => Chg [gh] w6 wx)
              case first =>
                as_aux_lemma =>
                  go_wp2_with fail
                  go_loopw [17] (fun i wr => ∃ k : Nat, k ≤ l0 ∧ i = .int .i64 k ∧ (∀ t, k ≤ t → t < l0 → wr.cell? ⟨gh, t, none⟩ = some (.float .f64 (z0 t).toNat)) ∧ (∀ t, wr.frozen? ⟨gh, t, none⟩ = false) ∧ Chg [gh] w6 wr) (fun i _ => l0 - (intOf i).toNat)
                  case atStart => exact ⟨0, Nat.zero_le _, rfl, fun t _ ht => CE6.out t ht, FZ6.out, Chg.refl _ _⟩
                  case round =>
                    obtain ⟨k, hk, rfl, hcl, hfz, hc⟩ := hrel
                    by_cases hlt : k < l0
                    · have hck := hcl k (Nat.le_refl _) hlt
                      have HCL := Lib.hid hcl
                      have hfk := hfz k
                      have HFZ := Lib.hid hfz
                      have HCC := Lib.hid hc
                      clear hcl hfz hc
                      go_wp2_with fail
                      go_roundw
                      case rel => exact ⟨k + 1, by omega, by go_num, fun t h1 h2 => (cell_other _ (addr_ne (by omega))).trans (HCL.out t (by omega) h2), by simpa using HFZ.out, HCC.out.setCell (.inl (by simp)) _⟩
                      case measure => simp [intOf]; omega
                    · go_wp2_with fail
                      go_meet
                      exact hc
              case rest =>
                as_aux_lemma =>
                  obtain ⟨wB, rfl⟩ : ∃ x : World, x = wc := ⟨_, rfl⟩
                  have hc : Chg [gh] w6 wB := hcut
                  clear hcut
                  have HB7 := Lib.hid (HB6.out.trans (hc.below HB6.out.size (by simp; omega)))
                  have HG7 := Lib.hid (HG6.out.chg hc (by simp; omega) (by simp; omega) (by simp; omega))
                  have HR7 := Lib.hid (HR6.out.chg hc (by simp; omega) (by simp; omega) (by simp; omega))
                  have FB7 : Hid (FltAt wB sb l0 cb (fun i => (z0 i).toNat)) := Lib.hid ⟨fun i hi => (by
                    obtain ⟨fb, fo, e1, e2, e3⟩ := FBW.out.cel i hi
                    obtain ⟨_, _, e1', e2', e3'⟩ := FB6.out.cel i hi
                    rw [e1] at e1'
                    injection e1' with e1'
                    injection e1' with e4 e5
                    subst e4; subst e5
                    exact ⟨fb, fo, e1, Nat.lt_of_lt_of_le e2' hc.size, (hc.cell (p := ⟨fb, fo + i, none⟩) e2' (by simp; omega)).trans e3'⟩), FB6.out.nil⟩
                  have y7 := hc.size
                  clear hc HB6 HG6 HR6 FB6 CE6 FZ6 hgl
                  go_upto_region 15 with (fail)
                  go_cut [14, 18] (fun e v wx => ∃ c : Int, e = .int .i64 c ∧ MadeG wB l3 (fun i => (z3 i).toNat) c v wx)
                  case first =>
                    as_aux_lemma =>
                      go_wp2_with fail
                      refine (of31 s3 l3 p3 z3 _ h3 (arg_below C3.out HB7.out)).mono ?_
                      rintro e w8 ⟨so, co, rfl, fo, hb8⟩
                      have FO := Lib.hid fo
                      have HB8 := Lib.hid hb8
                      clear fo hb8
                      by_cases hmany : 64 < l3
                      · go_wp2_with (go_at_call 28; (with_reducible refine (new28_many _ l3 _ hmany (by omega) _).mono ?_); rintro e w' ⟨rfl, rfl⟩)
                        go_meet
                        exact ⟨9, rfl, .inl ⟨hmany, rfl⟩, nofun, fun _ => rfl, HB8.out⟩
                      · have N1 := Lib.hid (new28 so l3 co (fun i => (z3 i).toNat) (by omega) w8 (fun i _ => K3.out i) FO.out.cel FO.out.nil)
                        go_wp2_with fail
                        refine N1.out.mono ?_
                        clear N1
                        rintro e w9 (⟨hf, b1, q1, d1, rfl, hg1, lb1, lc1, ld1, hb9⟩ | ⟨hnf, rfl, rfl⟩)
                        · have hx := HB8.out.size
                          have RES := Lib.hid (show MadeG wB l3 (fun i => (z3 i).toNat) 0 (.pointer (some ⟨b1, 0, none⟩)) w9 from ⟨.inr (.inl ⟨by omega, hf, rfl⟩), fun _ => ⟨b1, q1, d1, rfl, hg1, by omega, by omega, by omega⟩, fun h => absurd rfl h, HB8.out.trans (hb9.mono hx)⟩)
                          clear hg1 hb9 hf
                          go_wp2_with fail
                          go_meet
                          exact ⟨0, rfl, RES.out⟩
                        · have NF := Lib.hid hnf
                          clear hnf
                          go_wp2_with fail
                          go_meet
                          exact ⟨1, rfl, .inr (.inr ⟨by omega, NF.out, rfl⟩), nofun, fun _ => rfl, HB8.out⟩
                  case rest =>
                    as_aux_lemma =>
                      obtain ⟨wC, rfl⟩ : ∃ x : World, x = wc := ⟨_, rfl⟩
                      obtain ⟨code, rfl, hm⟩ := hcut
                      have HM := Lib.hid hm
                      have hb8 := hm.2.2.2
                      have HB8 := Lib.hid (HB7.out.trans (hb8.mono HB7.out.size))
                      have HG8 := Lib.hid (HG7.out.chg (Chg.of_below hb8 []) (by simp) (by simp) (by simp))
                      have HR8 := Lib.hid (HR7.out.chg (Chg.of_below hb8 []) (by simp) (by simp) (by simp))
                      have FB8 := Lib.hid (FB7.out.below hb8 (Nat.le_refl _))
                      have y8 := hb8.size
                      clear hm hb8 HB7 HG7 HR7 FB7
                      go_upto_region 16 with (fail)
                      go_cut [16, 19] (fun e v wx => ∃ c : Int, e = .int .i64 c ∧ MadeR wC l3 (fun i => (z3 i).toNat) c v wx)
                      case first =>
                        as_aux_lemma =>
                          go_wp2_with fail
                          refine (of31 s3 l3 p3 z3 _ h3 (arg_below C3.out HB8.out)).mono ?_
                          rintro e w8 ⟨so, co, rfl, fo, hb8⟩
                          have FO := Lib.hid fo
                          have HB9 := Lib.hid hb8
                          clear fo hb8
                          by_cases hmany : 64 < l3
                          · go_wp2_with (go_at_call 32; (with_reducible refine (new32_many _ l3 _ hmany (by omega) _).mono ?_); rintro e w' ⟨rfl, rfl⟩)
                            go_meet
                            exact ⟨9, rfl, .inl ⟨hmany, rfl⟩, nofun, fun _ => rfl, HB9.out⟩
                          · have N1 := Lib.hid (new32 so l3 co (fun i => (z3 i).toNat) (by omega) w8 (fun i _ => K3.out i) FO.out)
                            go_wp2_with fail
                            refine N1.out.mono ?_
                            clear N1
                            rintro e w9 (⟨hf, b1, q1, d1, rfl, hg1, lb1, lc1, ld1, hb9⟩ | ⟨hnf, rfl, hb9⟩)
                            · have hx := HB9.out.size
                              have RES := Lib.hid (show MadeR wC l3 (fun i => (z3 i).toNat) 0 (.pointer (some ⟨b1, 0, none⟩)) w9 from ⟨.inr (.inl ⟨by omega, hf, rfl⟩), fun _ => ⟨b1, q1, d1, rfl, hg1, by omega, by omega, by omega⟩, fun h => absurd rfl h, HB9.out.trans (hb9.mono hx)⟩)
                              clear hg1 hb9 hf
                              go_wp2_with fail
                              go_meet
                              exact ⟨0, rfl, RES.out⟩
                            · have NF := Lib.hid hnf
                              have HB10 := Lib.hid (HB9.out.trans (hb9.mono HB9.out.size))
                              clear hnf hb9
                              go_wp2_with fail
                              go_meet
                              exact ⟨1, rfl, .inr (.inr ⟨by omega, NF.out, rfl⟩), nofun, fun _ => rfl, HB10.out⟩
                      case rest =>
                        as_aux_lemma =>
                          obtain ⟨wD, rfl⟩ : ∃ x : World, x = wc := ⟨_, rfl⟩
                          obtain ⟨code', rfl, hm⟩ := hcut
                          have hcc := hm.1.one HM.out.1
                          subst hcc
                          have hb9 := hm.2.2.2
                          have HB9 := Lib.hid (HB8.out.trans (hb9.mono HB8.out.size))
                          have HG9 := Lib.hid (HG8.out.chg (Chg.of_below hb9 []) (by simp) (by simp) (by simp))
                          have HR9 := Lib.hid (HR8.out.chg (Chg.of_below hb9 []) (by simp) (by simp) (by simp))
                          have FB9 := Lib.hid (FB8.out.below hb9 (Nat.le_refl _))
                          have y9 := hb9.size
                          have CC := Lib.hid hm.1
                          have OT := Lib.hid (oth_of HM.out hm)
                          clear hm HM hb9 HB8 HG8 HR8 FB8
                          have N3 := Lib.hid (new28 sb l0 cb (fun i => (z0 i).toNat) (by omega) wD (fun i _ => K0.out i) FB9.out.cel FB9.out.nil)
                          go_wp2_with fail
                          refine N3.out.mono ?_
                          clear N3
                          rintro e w10 (⟨_, b3, q3, d3, rfl, hg3, lb3, lc3, ld3, hb10⟩ | ⟨hnf, _⟩)
                          · have FB10 := Lib.hid (FB9.out.below hb10 (Nat.le_refl _))
                            have N4 := Lib.hid (new32 sb l0 cb (fun i => (z0 i).toNat) (by omega) w10 (fun i _ => K0.out i) FB10.out)
                            go_wp2_with fail
                            refine N4.out.mono ?_
                            clear N4 FB9
                            rintro e w11 (⟨_, b4, q4, d4, rfl, hr4, lb4, lc4, ld4, hb11⟩ | ⟨hnf, _⟩)
                            · have hx := hb10.trans (hb11.mono hb10.size)
                              have cx := Chg.of_below hx []
                              have z1' := hg3.lb; have z2' := hg3.lc; have z3' := hg3.lbb
                              have z4' := hr4.lb; have z5' := hr4.lc; have z6' := hr4.lbb
                              have T0 : St ⟨wA.heap.size, w5.heap.size, wB.heap.size, wD.heap.size, w10.heap.size, w11.heap.size, b1, q1, d1, b2, q2, d2, b3, q3, d3, b4, q4, d4, l3, fun i => (z3 i).toNat, code', _, _⟩ w w11 (gau0 l0 fun i => (z0 i).toNat) (gau0 l0 fun i => (z0 i).toNat) :=
                                ⟨HG9.out.chg cx (by simp) (by simp) (by simp), HR9.out.chg cx (by simp) (by simp) (by simp), OT.out.chg cx (by simp), hg3.chg (Chg.of_below hb11 []) (by simp) (by simp) (by simp), hr4, HB9.out.trans (hx.mono HB9.out.size), l60, Nat.le_refl _,
                                  ⟨lb1, x1, lc1, x2, ld1, x3⟩, ⟨lb2, Nat.lt_of_lt_of_le x4 y7, lc2, Nat.lt_of_lt_of_le x5 y7, ld2, Nat.lt_of_lt_of_le x6 y7⟩, ⟨lb3, z1', lc3, z2', ld3, z3'⟩, ⟨lb4, z4', lc4, z5', ld4, z6'⟩, Nat.le_trans y8 y9⟩
                              have S0 : Sane (gau0 l0 fun i => (z0 i).toNat) 0 := sane0 FIT.out (fun i _ => K0.out i) (by omega)
                              have T0 := Lib.hid T0
                              have S0 := Lib.hid S0
                              clear hx cx z1' z2' z3' z4' z5' z6' hg3 hr4 hb10 hb11 lb1 lc1 ld1 lb2 lc2 ld2 lb3 lc3 ld3 lb4 lc4 ld4 x1 x2 x3 x4 x5 x6 y5 y6 y7 y8 y9 l60 l2s HG9 HR9 OT HB9 FB10 FBW hgB K0 HB3
                              generalize wA.heap.size = M1 at *
                              generalize w5.heap.size = M2 at *
                              generalize wB.heap.size = M3 at *
                              generalize wD.heap.size = M5 at *
                              generalize w10.heap.size = M6 at *
                              generalize w11.heap.size = M7 at *
                              generalize hG0 : (gau0 l0 fun i => (z0 i).toNat) = G0 at *
                              generalize hLL : (Where.mk M1 M2 M3 M5 M6 M7 b1 q1 d1 b2 q2 d2 b3 q3 d3 b4 q4 d4 l3 (fun i => (z3 i).toNat) code' _ _) = LL at *
                              have E := Lib.hid hLL
                              clear hG0 hLL
                              have e1 : b1 = LL.b1 := congrArg Where.b1 E.out
                              have e2 : b2 = LL.b2 := congrArg Where.b2 E.out
                              have e3 : b3 = LL.b3 := congrArg Where.b3 E.out
                              have e4 : b4 = LL.b4 := congrArg Where.b4 E.out
                              have e5 : code' = LL.code := congrArg Where.code E.out
                              have e6 := congrArg Where.vo E.out
                              have e7 := congrArg Where.vp E.out
                              have e8 : l3 = LL.n := congrArg Where.n E.out
                              have e9 : (fun i => (z3 i).toNat) = LL.bs := congrArg Where.bs E.out
                              have OK3 : Hid (LL.code = 0 → LL.n ≤ 64 ∧ Fit LL.n LL.bs ∧ Wide (gau0 LL.n LL.bs)) := Lib.hid (by
                                rw [← e5, ← e8, ← e9]
                                intro h
                                exact ⟨(CC.out.ok h).1, (CC.out.ok h).2, fun i _ => K3.out i⟩)
                              simp only at e6 e7
                              clear E CC e8 e9
                              subst e1 e2 e3 e4 e5 e6 e7
                              go_upto_block 2 with (fail)
                              go_cut [24] (fun v wx => St LL w wx (pn G0 (fun i => (z1 i).toNat) l1) G0)
                              case first =>
                                as_aux_lemma =>
                                  go_wp2_with fail
                                  go_loopw [24] (fun i wr => ∃ k : Nat, k ≤ l1 ∧ i = .int .i64 k ∧ St LL w wr (pn G0 (fun i => (z1 i).toNat) k) G0) (fun i _ => l1 - (intOf i).toNat)
                                  case atStart => exact ⟨0, Nat.zero_le _, rfl, T0.out⟩
                                  case round =>
                                    obtain ⟨k, hk, rfl, hT⟩ := hrel
                                    by_cases hlt : k < l1
                                    · have HT := Lib.hid hT
                                      clear hT
                                      go_wp2_with fail
                                      refine (of31 s1 l1 p1 z1 _ h1 (arg_below C1.out HT.out.be)).mono ?_
                                      rintro e wa ⟨sa, ca, rfl, fa, hba⟩
                                      obtain ⟨cb1, off1, rfl, _, hcell1⟩ := fa.cel k hlt
                                      have HTa := Lib.hid (HT.out.below hba)
                                      have PT := Lib.hid (put29 HTa.out.pg (pn_sane S0.out K1.out k) (by omega) (K1.out k))
                                      clear fa hba HT
                                      go_wp2_with fail
                                      refine PT.out.mono ?_
                                      rintro e wb ⟨rfl, hgb, hcb⟩
                                      have HGB := Lib.hid hgb
                                      have HCB := Lib.hid hcb
                                      clear hgb hcb PT hcell1
                                      go_wp2_with fail
                                      refine (of31 s1 l1 p1 z1 _ h1 (arg_below C1.out (HTa.out.be1 HCB.out))).mono ?_
                                      rintro e wc2 ⟨sa2, ca2, rfl, fa, hbc⟩
                                      obtain ⟨cb2, off2, rfl, _, hcell2⟩ := fa.cel k hlt
                                      have PR := Lib.hid (refput33 ((HTa.out.ref1 HCB.out).chg (Chg.of_below hbc []) (by simp) (by simp) (by simp)) (pn_sane S0.out K1.out k) (by omega) (K1.out k))
                                      have HBC := Lib.hid hbc
                                      clear fa hbc
                                      go_wp2_with fail
                                      refine PR.out.mono ?_
                                      rintro e wd ⟨rfl, hrd, hcd⟩
                                      have HTd := Lib.hid (HTa.out.to12 HGB.out HCB.out HBC.out hrd hcd)
                                      clear hrd hcd PR hcell2
                                      go_wp2_with fail
                                      go_roundw
                                      case rel => exact ⟨k + 1, by omega, by go_num, HTd.out⟩
                                      case measure => simp [intOf]; omega
                                    · have hkl : k = l1 := by omega
                                      subst hkl
                                      go_wp2_with fail
                                      go_meet
                                      exact hT
                              case rest =>
                                as_aux_lemma =>
                                  have T1 := Lib.hid hcut
                                  clear hcut T0
                                  go_upto_block 4 with (fail)
                                  go_cut [25] (fun v wx => St LL w wx (pn G0 (fun i => (z1 i).toNat) l1) (pn G0 (fun i => (z2 i).toNat) l2))
                                  case first =>
                                    as_aux_lemma =>
                                      go_wp2_with fail
                                      go_loopw [25] (fun i wr => ∃ k : Nat, k ≤ l2 ∧ i = .int .i64 k ∧ St LL w wr (pn G0 (fun i => (z1 i).toNat) l1) (pn G0 (fun i => (z2 i).toNat) k)) (fun i _ => l2 - (intOf i).toNat)
                                      case atStart => exact ⟨0, Nat.zero_le _, rfl, T1.out⟩
                                      case round =>
                                        obtain ⟨k, hk, rfl, hT⟩ := hrel
                                        by_cases hlt : k < l2
                                        · have HT := Lib.hid hT
                                          clear hT
                                          go_wp2_with fail
                                          refine (of31 s2 l2 p2 z2 _ h2 (arg_below C2.out HT.out.be)).mono ?_
                                          rintro e wa ⟨sa, ca, rfl, fa, hba⟩
                                          obtain ⟨cb1, off1, rfl, _, hcell1⟩ := fa.cel k hlt
                                          have HTa := Lib.hid (HT.out.below hba)
                                          have PT := Lib.hid (put29 HTa.out.ps (pn_sane S0.out K2.out k) (by omega) (K2.out k))
                                          clear fa hba HT
                                          go_wp2_with fail
                                          refine PT.out.mono ?_
                                          rintro e wb ⟨rfl, hgb, hcb⟩
                                          have HGB := Lib.hid hgb
                                          have HCB := Lib.hid hcb
                                          clear hgb hcb PT hcell1
                                          go_wp2_with fail
                                          refine (of31 s2 l2 p2 z2 _ h2 (arg_below C2.out (HTa.out.be3 HCB.out))).mono ?_
                                          rintro e wc2 ⟨sa2, ca2, rfl, fa, hbc⟩
                                          obtain ⟨cb2, off2, rfl, _, hcell2⟩ := fa.cel k hlt
                                          have PR := Lib.hid (refput33 ((HTa.out.ref3 HCB.out).chg (Chg.of_below hbc []) (by simp) (by simp) (by simp)) (pn_sane S0.out K2.out k) (by omega) (K2.out k))
                                          have HBC := Lib.hid hbc
                                          clear fa hbc
                                          go_wp2_with fail
                                          refine PR.out.mono ?_
                                          rintro e wd ⟨rfl, hrd, hcd⟩
                                          have HTd := Lib.hid (HTa.out.to34 HGB.out HCB.out HBC.out hrd hcd)
                                          clear hrd hcd PR hcell2
                                          go_wp2_with fail
                                          go_roundw
                                          case rel => exact ⟨k + 1, by omega, by go_num, HTd.out⟩
                                          case measure => simp [intOf]; omega
                                        · have hkl : k = l2 := by omega
                                          subst hkl
                                          go_wp2_with fail
                                          go_meet
                                          exact hT
                                  case rest =>
                                    as_aux_lemma =>
                                      have T2 := Lib.hid hcut
                                      have B0 := Lib.hid (show (pn G0 (fun i => (z1 i).toNat) l1).n = (pn G0 (fun i => (z2 i).toNat) l2).n ∧ (pn G0 (fun i => (z1 i).toNat) l1).bs = (pn G0 (fun i => (z2 i).toNat) l2).bs from ⟨by rw [pn_n, pn_n], by rw [pn_bs, pn_bs]⟩)
                                      have SG := Lib.hid (pn_sane S0.out K1.out l1)
                                      have SS := Lib.hid (pn_sane S0.out K2.out l2)
                                      clear hcut T1 S0 K1 K2 K3 C0 C1 C2 C3 FIT
                                      generalize pn G0 (fun i => (z1 i).toNat) l1 = G at *
                                      generalize pn G0 (fun i => (z2 i).toNat) l2 = S at *
                                      go_wp2_with fail
                                      refine (of31n s4 l4 p4 z4 _ h4 (arg_below C4.out T2.out.be)).mono ?_
                                      rintro e w12 ⟨sq, cq, rfl, fq, uq, hbq⟩
                                      have FQ : Hid (FltU LL.N7 w12 sq l4 cq (fun i => (z4 i).toNat)) := Lib.hid ⟨fq, fun b off e => Nat.le_trans T2.out.sz (uq b off e)⟩
                                      have T3 := Lib.hid (T2.out.below hbq)
                                      clear fq uq hbq T2 C4
                                      have SG := Lib.hid (SG.out.mono (C := 300) (by omega))
                                      have SS := Lib.hid (SS.out.mono (C := 300) (by omega))
                                      have LT := Lib.hid T3.out.lt
                                      have Q1 := Lib.hid (same34 T3.out.pg T3.out.pr SG.out (by omega) FQ.out.at' m4)
                                      go_wp2_with fail
                                      refine Q1.out.mono ?_
                                      rintro e w13 ⟨rfl, hb13⟩
                                      have T4 := Lib.hid (T3.out.below hb13)
                                      have FQ4 := Lib.hid (FQ.out.chg (Chg.of_below hb13 []) (by simp))
                                      clear Q1 hb13 T3 FQ
                                      have Q1 := Lib.hid (same34 T4.out.ps T4.out.pt SS.out (by omega) FQ4.out.at' m4)
                                      go_wp2_with fail
                                      refine Q1.out.mono ?_
                                      rintro e w14 ⟨rfl, hb14⟩
                                      have T5 := Lib.hid (T4.out.below hb14)
                                      have FQ5 := Lib.hid (FQ4.out.chg (Chg.of_below hb14 []) (by simp))
                                      clear Q1 hb14 T4 FQ4
                                      go_upto_region 34 with (fail)
                                      go_cut [18, 19, 182] (fun _ _ v wx => v = .bool false ∧ ∃ G1, Sane G1 300 ∧ G1.n = S.n ∧ G1.bs = S.bs ∧ St LL w wx G1 S ∧ FltU LL.N7 wx sq l4 cq (fun i => (z4 i).toNat))
                                      case first =>
                                        as_aux_lemma =>
                                          by_cases hc : LL.code = 0
                                          · have hcb : (LL.code == 0) = true := by simpa using hc
                                            obtain ⟨ok1, ok2, ok3⟩ := OK3.out hc
                                            obtain ⟨bo, co, d, bp, cp, dp, evo, evp, hgo, hro, ra, rb⟩ := T5.out.po.1 hc
                                            have SO := Lib.hid ((sane0 ok2 ok3 ok1).mono (C := 300) (by omega))
                                            have SO0 := Lib.hid (sane0 ok2 ok3 ok1)
                                            rw [evo, evp]
                                            have HGO := Lib.hid hgo
                                            have HRO := Lib.hid hro
                                            have RR := Lib.hid (And.intro ra rb)
                                            clear hc ok1 ok2 ok3 evo evp hgo hro ra rb
                                            cases ha : alike G (gau0 LL.n LL.bs)
                                            · have A1 := Lib.hid (merge35_no T5.out.pg HGO.out SG.out.wide SO.out.wide SG.out.n64 SO.out.n64 ha)
                                              have A2 := Lib.hid (fun w' (hd : Drawn w14 w') => refmerge36_no (T5.out.pr.drawn hd) (HRO.out.drawn hd) SG.out.wide SO.out.wide SG.out.n64 SO.out.n64 ha)
                                              clear ha
                                              go_wp2_with fail
                                              refine A1.out.mono ?_
                                              rintro e w15 ⟨rfl, hd15⟩
                                              have A3 := Lib.hid (A2.out _ hd15)
                                              have HD := Lib.hid hd15
                                              clear A1 A2 hd15
                                              go_wp2_with fail
                                              refine A3.out.mono ?_
                                              rintro e w16 ⟨rfl, hd16⟩
                                              have HD2 := Lib.hid (HD.out.trans hd16)
                                              clear A3 HD hd16
                                              go_wp2_with fail
                                              go_meet
                                              exact ⟨rfl, G, SG.out, B0.out.1, B0.out.2, T5.out.below HD2.out.below, FQ5.out.chg (Chg.of_below HD2.out.below []) (by simp)⟩
                                            · have A1 := Lib.hid (merge35_yes T5.out.pg HGO.out SG.out SO.out (by omega) ha)
                                              have HA := Lib.hid ha
                                              clear ha
                                              go_wp2_with fail
                                              refine A1.out.mono ?_
                                              rintro e w15 ⟨rfl, hg15, hc15⟩
                                              have TT := T5.out
                                              have i1 := TT.r1; have i2 := TT.r2; have i3 := TT.n35
                                              have A3 := Lib.hid (refmerge36_yes (T5.out.ref1 hc15) (HRO.out.chg hc15 (by have := RR.out; simp; omega) (by have := RR.out; simp; omega) (by have := RR.out; simp; omega)) SG.out SO.out (by omega) HA.out)
                                              have HG15 := Lib.hid hg15
                                              have HC15 := Lib.hid hc15
                                              clear A1 TT i1 i2 i3 hg15 hc15
                                              go_wp2_with fail
                                              refine A3.out.mono ?_
                                              rintro e w16 ⟨rfl, hr16, hc16⟩
                                              have T6 := Lib.hid (T5.out.to12 HG15.out HC15.out (Below.refl _ _) hr16 hc16)
                                              have FQ6 := Lib.hid ((FQ5.out.chg HC15.out (by have := LT.out; simp; omega)).chg hc16 (by have := LT.out; simp; omega))
                                              have SM := Lib.hid (SG.out.merge SO0.out (alike_yes HA.out).1)
                                              clear A3 hr16 hc16
                                              go_wp2_with fail
                                              go_meet
                                              exact ⟨rfl, _, SM.out.mono (by omega), B0.out.1, B0.out.2, T6.out, FQ6.out⟩
                                          · have hcb : (LL.code == 0) = false := by simpa using hc
                                            clear hc
                                            go_wp2_with fail
                                            go_meet
                                            exact ⟨rfl, G, SG.out, B0.out.1, B0.out.2, T5.out, FQ5.out⟩
                                      case rest =>
                                        as_aux_lemma =>
                                          obtain ⟨rfl, G1, sg1, n1, s1', t6, fq6⟩ := hcut
                                          have SG1 := Lib.hid sg1
                                          have AL := Lib.hid (alike_same n1 s1')
                                          have NN := Lib.hid n1
                                          have T6 := Lib.hid t6
                                          have FQ6 := Lib.hid fq6
                                          clear sg1 n1 s1' t6 fq6 T5 FQ5 SG B0 OK3
                                          have A1 := Lib.hid (merge35_yes T6.out.pg T6.out.ps SG1.out SS.out (by omega) AL.out)
                                          go_wp2_with fail
                                          refine A1.out.mono ?_
                                          rintro e w15 ⟨rfl, hg15, hc15⟩
                                          have A3 := Lib.hid (refmerge36_yes (T6.out.ref1 hc15) (T6.out.ref4 hc15) SG1.out SS.out (by omega) AL.out)
                                          have HG15 := Lib.hid hg15
                                          have HC15 := Lib.hid hc15
                                          clear A1 hg15 hc15
                                          go_wp2_with fail
                                          refine A3.out.mono ?_
                                          rintro e w16 ⟨rfl, hr16, hc16⟩
                                          have T7 := Lib.hid (T6.out.to12 HG15.out HC15.out (Below.refl _ _) hr16 hc16)
                                          have FQ7 := Lib.hid ((FQ6.out.chg HC15.out (by have := LT.out; simp; omega)).chg hc16 (by have := LT.out; simp; omega))
                                          have SM := Lib.hid (SG1.out.merge SS.out NN.out)
                                          clear A3 hr16 hc16 T6 FQ6 HG15 HC15 SG1 AL NN
                                          generalize merge G1 S = G2 at *
                                          have Q1 := Lib.hid (same34 T7.out.pg T7.out.pr SM.out (by omega) FQ7.out.at' m4)
                                          go_wp2_with fail
                                          refine Q1.out.mono ?_
                                          rintro e w17 ⟨rfl, hb17⟩
                                          have T8 := Lib.hid (T7.out.below hb17)
                                          have FQ8 := Lib.hid (FQ7.out.chg (Chg.of_below hb17 []) (by simp))
                                          clear Q1 hb17 T7 FQ7
                                          have Q1 := Lib.hid (same34 T8.out.ps T8.out.pt SS.out (by omega) FQ8.out.at' m4)
                                          go_wp2_with fail
                                          refine Q1.out.mono ?_
                                          rintro e w18 ⟨rfl, hb18⟩
                                          have T9 := Lib.hid (T8.out.below hb18)
                                          have FQ9 := Lib.hid (FQ8.out.chg (Chg.of_below hb18 []) (by simp))
                                          clear Q1 hb18 T8 FQ8
                                          have AL : Hid (alike G2 G2 = true) := Lib.hid (alike_same rfl rfl)
                                          have A1 := Lib.hid (merge35_yes T9.out.pg T9.out.pg SM.out SM.out (by omega) AL.out)
                                          go_wp2_with fail
                                          refine A1.out.mono ?_
                                          rintro e w19 ⟨rfl, hg19, hc19⟩
                                          have A3 := Lib.hid (refmerge36_yes (T9.out.ref1 hc19) (T9.out.ref1 hc19) SM.out SM.out (by omega) AL.out)
                                          have HG19 := Lib.hid hg19
                                          have HC19 := Lib.hid hc19
                                          clear A1 hg19 hc19
                                          go_wp2_with fail
                                          refine A3.out.mono ?_
                                          rintro e w20 ⟨rfl, hr20, hc20⟩
                                          have T10 := Lib.hid (T9.out.to12 HG19.out HC19.out (Below.refl _ _) hr20 hc20)
                                          have FQ10 := Lib.hid ((FQ9.out.chg HC19.out (by have := LT.out; simp; omega)).chg hc20 (by have := LT.out; simp; omega))
                                          have SM2 := Lib.hid (SM.out.merge SM.out rfl)
                                          clear A3 hr20 hc20 T9 FQ9 HG19 HC19 AL SM
                                          generalize merge G2 G2 = G3 at *
                                          have Q1 := Lib.hid (same34 T10.out.pg T10.out.pr SM2.out (by omega) FQ10.out.at' m4)
                                          go_wp2_with fail
                                          refine Q1.out.mono ?_
                                          rintro e w21 ⟨rfl, hb21⟩
                                          have T11 := Lib.hid (T10.out.below hb21)
                                          have FQ11 := Lib.hid (FQ10.out.chg (Chg.of_below hb21 []) (by simp))
                                          clear Q1 hb21 T10 FQ10
                                          have Q2 := Lib.hid (merge_nil_right T11.out.pg)
                                          have Q1 := Lib.hid (same34 T11.out.pg T11.out.pr SM2.out (by omega) FQ11.out.at' m4)
                                          go_wp2_with fail
                                          refine Q2.out.mono ?_
                                          rintro e w22 ⟨rfl, rfl⟩
                                          go_wp2_with fail
                                          refine Q1.out.mono ?_
                                          rintro e w23 ⟨rfl, hb23⟩
                                          have T12 := Lib.hid (T11.out.below hb23)
                                          clear Q1 Q2 hb23 T11 FQ11
                                          go_wp2_with fail
                                          go_ret
                                          exact ⟨rfl, T12.out.be⟩
                            · exact absurd FIT.out hnf
                          · exact absurd FIT.out hnf
            · exact absurd FIT.out hnf
          · have N2 := Lib.hid (new32 sb l0 cb (fun i => (z0 i).toNat) (by omega) _ (fun i _ => K0.out i) FB3.out)
            have NF := Lib.hid hnf
            clear hnf
            go_wp2_with fail
            refine N2.out.mono ?_
            clear N2
            rintro e w6 (⟨hf, _⟩ | ⟨hnf, rfl, hb6⟩)
            · exact absurd hf NF.out
            · have HB6 := Lib.hid (HB3.out.trans (hb6.mono HB3.out.size))
              clear hb6 hnf
              go_wp2_with fail
              go_ret
              exact ⟨rfl, HB6.out⟩
end Go.Proofs.Ytofjgnlolmaidaa
