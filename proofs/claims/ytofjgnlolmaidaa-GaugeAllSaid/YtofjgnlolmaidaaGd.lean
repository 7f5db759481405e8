/- A new gauge. -/
import Derived.Test.YtofjgnlolmaidaaGc
import Derived.Deep.RegionLawGrows
namespace Go.Proofs.Ytofjgnlolmaidaa
set_option linter.unusedVariables false
open Go.RowKit

def gau0 (n : Nat) (bs : Nat → Nat) : Gau := { n, bs, cs := fun _ => 0, count := 0, nans := 0, least := 0, greatest := 0, mean := 0 }

/-- What New leaves where the bounds are fit. -/
def NewOk (w : World) (n : Nat) (bs : Nat → Nat) (e : Ending) (w' : World) : Prop :=
  ∃ b bc bb, e = .returned (.tuple #[.pointer (some ⟨b, 0, none⟩), .int .i64 0]) ∧ GaugeAt w' b bc bb (gau0 n bs) ∧ w.heap.size ≤ b ∧ w.heap.size ≤ bc ∧ w.heap.size ≤ bb ∧ Below w.heap.size w w'
def NewPost (w : World) (n : Nat) (bs : Nat → Nat) (e : Ending) (w' : World) : Prop :=
  (Fit n bs ∧ NewOk w n bs e w') ∨ (¬ Fit n bs ∧ e = .returned (.tuple #[.pointer none, .int .i64 1]) ∧ w' = w)

theorem new28_many (sl : Option Addr) (n cap : Nat) (hn : 64 < n) (hm : (n : Int) ≤ 9223372036854775807) (w : World) :
    Calls Try.prog 28 #[.slice sl n cap] w fun e w' => e = .returned (.tuple #[.pointer none, .int .i64 9]) ∧ w = w' := by
  have h : (64 : Int) < n := by omega
  go_enter Try.func28, Try.ntmps28
  go_wp2_with fail
  go_ret2
  exact ⟨rfl, rfl⟩

theorem gauge_of_blocks {w : World} {b bc bb n : Nat} {bs : Nat → Nat} {sl : Option Addr} {cap ccap : Nat}
    (hb : w.heap[b]? = some (.cells #[.bool true, .slice sl n cap, .slice (some ⟨bc, 0, none⟩) (n + 1) ccap, .int .i64 0, .int .i64 0, .float .f64 0, .float .f64 0, .float .f64 0] 90))
    (hbc : w.heap[bc]? = some (.cells (madeCells #[.int .i64 0] (n + 1)) 2))
    (hbb : 0 < n → sl = some ⟨bb, 0, none⟩ ∧ ∃ rest, w.heap[bb]? = some (.cells (((List.range n).map fun j => Value.float .f64 (bs j)).toArray ++ rest) 25))
    (lbb : bb < w.heap.size) (ne : b ≠ bc) (neb : bb ≠ b) (nec : 0 < n → bb ≠ bc) : GaugeAt w b bc bb (gau0 n bs) := by
  have e := cells_of_block hb
  have lt : ∀ {k : Nat} {o : Obj}, w.heap[k]? = some o → k < w.heap.size := fun h => (Array.getElem?_eq_some_iff.1 h).1
  refine ⟨e 0, ⟨sl, cap, e 1, fun i hi => (hbb (Nat.lt_of_le_of_lt (Nat.zero_le i) hi)).1⟩, ⟨ccap, e 2⟩, e 3, e 4, e 5, e 6, e 7, fun o => ?_, fun o => ?_, fun i hi => ?_, fun i hi => ?_, lt hb, lt hbc, lbb, ne, neb, nec⟩
  · unfold World.frozen?; simp [hb]
  · unfold World.frozen?; simp [hbc]
  · obtain ⟨_, rest, h⟩ := hbb (Nat.lt_of_le_of_lt (Nat.zero_le i) hi)
    rw [cells_of_block h i]
    have hi' : i < n := hi
    rw [Array.getElem?_append_left (by simpa using hi')]
    simp [hi', gau0]
  · rw [cells_of_block hbc i]
    have hi' : i < n + 1 := by have : i ≤ n := hi; omega
    simp [madeCells, hi', Nat.mod_one, gau0]

theorem add_lit' (b o i : Nat) : (⟨b, o, none⟩ : Addr).add i = ⟨b, o + i, none⟩ := by
  unfold Addr.add
  by_cases h : i = 0
  · subst h; rfl
  · rw [if_neg h]
theorem run_append_none (sl : Option Addr) (cap : Nat) (w : World) : (Builtin.append_ #[56, 56] 56 #[.slice none 0 0, .slice sl 0 cap]).run Try.prog w = .ok (.slice none 0 0) w := by
  obtain ⟨i0, hi, hz0, hz1, hz2⟩ := info_parts (show (Try.prog.info? 25).map (fun i => (i.zero, i.size, i.bytes)) = some (some (.float .f64 0), 1, 8) from by kernel_rfl)
  cases sl with
  | none => simp [Builtin.append_, run_underlying (P := Try.prog) Try.underlying56, sizeOf, typeInfo, hi, Builtin.lenOf, Builtin.firstCells]
  | some a => simp [Builtin.append_, run_underlying (P := Try.prog) Try.underlying56, sizeOf, typeInfo, hi, Builtin.lenOf, Builtin.firstCells, loadCells, loadCellsFrom]

theorem step_append_floats {ops : Array Oper} {o : Oper} {a : Act} {w : World} {K : Act → World → Prop} {Q : Exit → Act → World → Prop} {E : Prop}
    (hg : o.guard = none) (x : Operand) (hop : o.op = Op.call { callee := Callee.builtin Builtin.append, args := #[.const (.slice none 0 0), x], argTypes := #[56, 56] }) (hty : o.type = 56)
    (ad : Addr) (n c : Nat) (f : Nat → Nat) (hx : a.eval x = .slice (some ad) n c) (h0 : 0 < n) (hn : n ≤ 64) (hc : ∀ j, j < n → w.cell? (ad.add j) = some (.float .f64 (f j)))
    (hK : K (a.put o.dst (.slice (some ⟨w.heap.size, 0, none⟩) n (grownCap w n 0 25))) ((w.alloc (.cells (((List.range n).map fun j => Value.float .f64 (f j)).toArray ++ Builtin.zeroCells #[.float .f64 0] (grownCap w n 0 25 - n)) 25)).drew)) :
    if Region.wanted o (yielded ops a.tmps) = true then Oper.wp Try.prog o a w K Q else E := by
  have hw : Region.wanted o (yielded ops a.tmps) = true := by simp [Region.wanted, hg]
  rw [if_pos hw]
  have hrun := run_append_floats ad n c f w h0 hn hc
  unfold Oper.wp
  simp [execOp, hop, hty, resolve, invoke, builtin, Act.eval, hrun, Result.andThen]
  have hx' := hx
  cases x <;> simp [Act.eval] at hx' <;> simp [hx', hrun, Result.andThen] <;> exact hK

theorem step_append_none {ops : Array Oper} {o : Oper} {a : Act} {w : World} {K : Act → World → Prop} {Q : Exit → Act → World → Prop} {E : Prop}
    (hg : o.guard = none) (x : Operand) (hop : o.op = Op.call { callee := Callee.builtin Builtin.append, args := #[.const (.slice none 0 0), x], argTypes := #[56, 56] }) (hty : o.type = 56)
    (sl : Option Addr) (c : Nat) (hx : a.eval x = .slice sl 0 c)
    (hK : K (a.put o.dst (.slice none 0 0)) w) :
    if Region.wanted o (yielded ops a.tmps) = true then Oper.wp Try.prog o a w K Q else E := by
  have hw : Region.wanted o (yielded ops a.tmps) = true := by simp [Region.wanted, hg]
  rw [if_pos hw]
  have hrun := run_append_none sl c w
  unfold Oper.wp
  simp only [execOp, hop, hty, resolve, invoke, builtin]
  have hx' := hx
  cases x <;> simp only [Act.eval] at hx' <;> simp [Act.eval, hx', hrun, Result.andThen] <;> exact hK

set_option maxHeartbeats 2000000 in
theorem new28 (sl : Option Addr) (n cap : Nat) (bs : Nat → Nat) (hn : n ≤ 64) (w : World) (hb : ∀ i, i < n → bs i < 18446744073709551616)
    (hsl : ∀ i, i < n → ∃ b off, sl = some ⟨b, off, none⟩ ∧ b < w.heap.size ∧ w.cell? ⟨b, off + i, none⟩ = some (.float .f64 (bs i))) (hnil : sl = none → n = 0 ∧ cap = 0) :
    Calls Try.prog 28 #[.slice sl n cap] w (NewPost w n bs) := by
  have h : ¬ (64 : Int) < n := by omega
  have hm : (n : Int) ≤ 64 := by omega
  go_enter Try.func28, Try.ntmps28
  go_wp2_with fail
  go_loop [11] (fun i => ∃ k : Nat, k ≤ n ∧ i = .int .i64 k ∧ (∀ j, j < k → Fl.num (bs j)) ∧ (∀ j, 0 < j → j < k → key (bs (j - 1)) < key (bs j))) (fun i => n - (intOf i).toNat)
  case atStart => exact ⟨0, Nat.zero_le _, rfl, fun j hj => absurd hj (Nat.not_lt_zero _), fun j _ hj => absurd hj (Nat.not_lt_zero _)⟩
  case round =>
    obtain ⟨k, hk, rfl, hnum, hup⟩ := hrel
    by_cases hlt : k < n
    · obtain ⟨b, off, rfl, hbw, hcell⟩ := hsl k hlt
      have HN := Lib.hid hnum
      have HU := Lib.hid hup
      have HS := Lib.hid hsl
      have hbk := hb k hlt
      have HB := Lib.hid hb
      clear hnum hup hsl hb hnil
      by_cases hx : Fl.num (bs k)
      · have h1 := Fl.neq_self_num hx
        by_cases hz : k = 0
        · subst hz
          rw [Nat.add_zero] at hcell
          have d0 : decide ((0 : Int) < 0) = false := rfl
          go_wp2_with fail
          go_round
          case rel => exact ⟨1, by omega, by go_num, fun j hj => by (have : j = 0 := by omega); subst this; exact hx, fun j h0 hj => by omega⟩
          case measure => simp [intOf]; omega
        · have hpos : (0 : Int) < (k : Int) := by omega
          obtain ⟨b', off', e', hbw', hcell'⟩ := HS.out (k - 1) (by omega)
          injection e' with e'
          injection e' with e1 e2
          subst e1; subst e2
          have hbk1 := HB.out (k - 1) (by omega)
          have cp := fun w => compare50 hbk1 hbk w
          by_cases hc : key (bs (k - 1)) < key (bs k)
          · have hcm : cmpN (key (bs (k - 1))) (key (bs k)) = -1 := by unfold cmpN; rw [if_pos hc]
            rw [hcm] at cp
            have CP := Lib.hid cp
            have HC := Lib.hid hc
            clear cp hcm hc hbk hbk1
            go_wp2_with (go_at_call 50; refine (CP.out _).mono ?_; rintro e w' ⟨rfl, rfl⟩)
            go_round
            case rel =>
              refine ⟨k + 1, by omega, by go_num, fun j hj => ?_, fun j h0 hj => ?_⟩
              · by_cases hjk : j = k
                · rw [hjk]; exact hx
                · exact HN.out j (by omega)
              · by_cases hjk : j = k
                · rw [hjk]; exact HC.out
                · exact HU.out j h0 (by omega)
            case measure => simp [intOf]; omega
          · have hcm : 0 ≤ cmpN (key (bs (k - 1))) (key (bs k)) := by unfold cmpN; rw [if_neg hc]; split <;> omega
            have CP := Lib.hid cp
            generalize cmpN (key (bs (k - 1))) (key (bs k)) = cv at CP hcm
            have HF : Hid (¬ Fit n bs) := Lib.hid (fun hf => hc (hf.up k (by omega) hlt))
            clear cp hc hbk hbk1
            go_wp2_with (go_at_call 50; refine (CP.out _).mono ?_; rintro e w' ⟨rfl, rfl⟩)
            go_ret2
            exact .inr ⟨HF.out, rfl, rfl⟩
      · have h1 := Fl.neq_self_nan hx
        have HF : Hid (¬ Fit n bs) := Lib.hid (fun hf => hx (hf.num k hlt))
        clear hx
        go_wp2_with fail
        go_ret2
        exact .inr ⟨HF.out, rfl, rfl⟩
    · have hkn : k = n := by omega
      subst hkn
      have HF : Hid (Fit k bs) := Lib.hid ⟨hnum, hup⟩
      clear hnum hup
      have hmk := fun w => run_make_cells (k + 1) (by omega) w
      rw [show ((k + 1 : Nat) : Int) = (k : Int) + 1 from by omega] at hmk
      by_cases hz : k = 0
      · subst hz
        have hmk1 := fun w => run_make_cells 1 (by omega) w
        rw [show ((1 : Nat) : Int) = 1 from rfl] at hmk1
        have hw1 : IntKind.i64.wrap 1 = 1 := by decide
        go_wp2_with fail
        go_region_law (refine step_append_none rfl (.tmp 34) rfl rfl sl cap rfl ?_)
        all_goals
          go_wp2_with fail
          go_ret2
          refine .inl ⟨HF.out, _, w.heap.size, w.heap.size, rfl, gauge_of_blocks (sl := none) (cap := 0) (ccap := 1) (alloc_at _ _ _ (by simp)) ((alloc_past _ _ _ (by simp)).trans (alloc_at _ _ _ (by simp))) (fun h => absurd h (Nat.lt_irrefl 0)) (by simp; omega) (by omega) (by omega) (fun h => absurd h (Nat.lt_irrefl 0)), by omega, by omega, by omega, ?_⟩
          exact ((((Below.refl w.heap.size w).drew).alloc (by simp) _).alloc (by simp) _)
      · have hn0 : 0 < k := by omega
        obtain ⟨b, off, rfl, hbw, _⟩ := hsl 0 hn0
        have hcs : ∀ j, j < k → w.cell? ((⟨b, off, none⟩ : Addr).add j) = some (.float .f64 (bs j)) := by
          intro j hj
          obtain ⟨b', off', e', _, hcell'⟩ := hsl j hj
          injection e' with e'
          injection e' with e1 e2
          subst e1; subst e2
          rw [add_lit']; exact hcell'
        have hcs2 : ∀ o, ∀ j, j < k → (w.alloc o).cell? ((⟨b, off, none⟩ : Addr).add j) = some (.float .f64 (bs j)) := fun o j hj => by
          have := hcs j hj
          rw [add_lit'] at this ⊢
          exact (cell_old w _ _ _ hbw).trans this
        have HC1 := Lib.hid hcs
        have HC2 := Lib.hid hcs2
        clear hcs hcs2 hsl hnil
        have hw1 : IntKind.i64.wrap ((k : Int) + 1) = (k : Int) + 1 := by rw [IntKind.wrap_i64]; omega
        go_wp2_with fail
        go_region_law ((refine step_append_floats rfl (.tmp 34) rfl rfl ⟨b, off, none⟩ k cap bs rfl hn0 hn ?_ ?_; (first | exact HC1.out | exact HC2.out _)))
        all_goals
          go_wp2_with fail
          go_ret2
        · refine .inl ⟨HF.out, _, w.heap.size + 1, w.heap.size, rfl, gauge_of_blocks (alloc_at _ _ _ (by simp)) ((alloc_past _ _ _ (by simp)).trans (alloc_at _ _ _ (by simp))) (fun _ => ⟨rfl, _, (alloc_past _ _ _ (by simp; omega)).trans ((alloc_past _ _ _ (by simp)).trans (alloc_at _ _ _ rfl))⟩) (by simp; omega) (by omega) (by omega) (fun _ => by omega), by omega, by omega, by omega, ?_⟩
          exact (((((Below.refl w.heap.size w).alloc (Nat.le_refl _) _).drew.drew).alloc (by simp) _).alloc (by simp; omega) _)
        · refine .inl ⟨HF.out, _, w.heap.size, w.heap.size + 1, rfl, gauge_of_blocks (alloc_at _ _ _ (by simp)) ((alloc_past _ _ _ (by simp; omega)).trans ((alloc_past _ _ _ (by simp)).trans (alloc_at _ _ _ rfl))) (fun _ => ⟨rfl, _, (alloc_past _ _ _ (by simp)).trans (alloc_at _ _ _ (by simp))⟩) (by simp) (by omega) (by omega) (fun _ => by omega), by omega, by omega, by omega, ?_⟩
          exact (((((Below.refl w.heap.size w).alloc (Nat.le_refl _) _).drew.drew).alloc (by simp) _).alloc (by simp; omega) _)
end Go.Proofs.Ytofjgnlolmaidaa
