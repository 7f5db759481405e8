/- The reference's New. -/
import Derived.Test.YtofjgnlolmaidaaHa
import Derived.BigQuiet
namespace Go.Proofs.Ytofjgnlolmaidaa
set_option linter.unusedVariables false
open Go.RowKit
attribute [local go_sem] run_store_float

def RNewOk (w : World) (n : Nat) (bs : Nat → Nat) (e : Ending) (w' : World) : Prop :=
  ∃ b bc bb, e = .returned (.tuple #[.pointer (some ⟨b, 0, none⟩), .int .i64 0]) ∧ RefG w' b bc bb (gau0 n bs) ∧ w.heap.size ≤ b ∧ w.heap.size ≤ bc ∧ w.heap.size ≤ bb ∧ Below w.heap.size w w'
def RNewPost (w : World) (n : Nat) (bs : Nat → Nat) (e : Ending) (w' : World) : Prop :=
  (Fit n bs ∧ RNewOk w n bs e w') ∨ (¬ Fit n bs ∧ e = .returned (.tuple #[.pointer none, .int .i64 1]) ∧ Below w.heap.size w w')

theorem new32_many (sl : Option Addr) (n cap : Nat) (hn : 64 < n) (hm : (n : Int) ≤ 9223372036854775807) (w : World) :
    Calls Try.prog 32 #[.slice sl n cap] w fun e w' => e = .returned (.tuple #[.pointer none, .int .i64 9]) ∧ w = w' := by
  have h : (64 : Int) < n := by omega
  go_enter Try.func32, Try.ntmps32
  go_wp2_with fail
  go_ret2
  exact ⟨rfl, rfl⟩

theorem refg_of_blocks {w : World} {b bc bb n : Nat} {bs : Nat → Nat} {sl : Option Addr} {cap ccap : Nat}
    (hb : w.heap[b]? = some (.cells #[.slice sl n cap, .slice (some ⟨bc, 0, none⟩) (n + 1) ccap, .int .i64 0, .int .i64 0, .float .f64 0, .float .f64 0, .float .f64 0] 95))
    (hbc : w.heap[bc]? = some (.cells (madeCells #[.int .i64 0] (n + 1)) 2))
    (hbb : 0 < n → sl = some ⟨bb, 0, none⟩ ∧ ∃ rest, w.heap[bb]? = some (.cells (((List.range n).map fun j => Value.float .f64 (bs j)).toArray ++ rest) 25))
    (lbb : bb < w.heap.size) (ne : b ≠ bc) (neb : bb ≠ b) (nec : 0 < n → bb ≠ bc) : RefG w b bc bb (gau0 n bs) := by
  have e := cells_of_block hb
  have lt : ∀ {k : Nat} {o : Obj}, w.heap[k]? = some o → k < w.heap.size := fun h => (Array.getElem?_eq_some_iff.1 h).1
  refine ⟨⟨sl, cap, e 0, fun i hi => (hbb (Nat.lt_of_le_of_lt (Nat.zero_le i) hi)).1⟩, ⟨ccap, e 1⟩, e 2, e 3, e 4, e 5, e 6, fun o => ?_, fun o => ?_, fun i hi => ?_, fun i hi => ?_, lt hb, lt hbc, lbb, ne, neb, nec⟩
  · unfold World.frozen?; simp [hb]
  · unfold World.frozen?; simp [hbc]
  · obtain ⟨_, rest, h⟩ := hbb (Nat.lt_of_le_of_lt (Nat.zero_le i) hi)
    rw [cells_of_block h i]
    have hi' : i < n := hi
    rw [Array.getElem?_append_left (by simpa using hi')]
    simp [hi', gau0]
  · rw [cells_of_block hbc i]
    have hi' : i < n + 1 := by have : i ≤ n := hi; omega
    simp [madeCells, hi', Nat.mod_one, gau0]

theorem Drawn.below {w w' : World} (h : Drawn w w') : Below w.heap.size w w' := by
  obtain ⟨n, rfl⟩ := h
  exact ⟨rfl, rfl, rfl, Nat.le_refl _, fun _ _ => rfl⟩

set_option maxHeartbeats 2000000 in
theorem new32 (sl : Option Addr) (n cap : Nat) (bs : Nat → Nat) (hn : n ≤ 64) (w : World) (hb : ∀ i, i < n → bs i < 18446744073709551616) (h : FltAt w sl n cap bs) :
    Calls Try.prog 32 #[.slice sl n cap] w (RNewPost w n bs) := by
  have h64 : ¬ (64 : Int) < n := by omega
  have hm : (n : Int) ≤ 64 := by omega
  have HS := Lib.hid h.cel
  have HNIL := Lib.hid h.nil
  have HB := Lib.hid hb
  clear h hb
  go_enter Try.func32, Try.ntmps32
  go_wp2_with fail
  go_loopw [4] (fun i wr => ∃ k : Nat, k ≤ n ∧ i = .int .i64 k ∧ (∀ j, j < k → Fl.num (bs j)) ∧ (∀ j, 0 < j → j < k → key (bs (j - 1)) < key (bs j)) ∧ Drawn w wr) (fun i _ => n - (intOf i).toNat)
  case atStart => exact ⟨0, Nat.zero_le _, rfl, fun j hj => absurd hj (Nat.not_lt_zero _), fun j _ hj => absurd hj (Nat.not_lt_zero _), Drawn.refl _⟩
  case round =>
    obtain ⟨k, hk, rfl, hnum, hup, hd⟩ := hrel
    have HN := Lib.hid hnum
    have HU := Lib.hid hup
    clear hnum hup
    by_cases hlt : k < n
    · obtain ⟨b, off, rfl, hbw, hcell⟩ := HS.out k hlt
      have hcell' : wr.cell? ⟨b, off + k, none⟩ = some (.float .f64 (bs k)) := (hd.cell _).trans hcell
      clear hcell
      have hbk := HB.out k hlt
      by_cases hx : Fl.num (bs k)
      · have NN := Lib.hid (nan_no hx hbk)
        by_cases hz : k = 0
        · subst hz
          rw [Nat.add_zero] at hcell'
          have d0 : decide ((0 : Int) < 0) = false := rfl
          have HX := Lib.hid hx
          clear hx
          go_wp2_with fail
          go_quiet ((go_at_call 48; exact quiet_left (NN.out _)))
          go_wp2_with fail
          go_roundw
          case rel => exact ⟨1, by omega, by go_num, fun j hj => by (have : j = 0 := by omega); subst this; exact HX.out, fun j h0 hj => by omega, hd.trans ⟨_, rfl⟩⟩
          case measure => simp [intOf]; omega
        · have hpos : decide ((0 : Int) < (k : Int)) = true := by simp; omega
          have hpn : (0 : Int) < (k : Int) := by omega
          obtain ⟨b', off', e', hbw', hcell1⟩ := HS.out (k - 1) (by omega)
          injection e' with e'
          injection e' with e1 e2
          subst e1; subst e2
          obtain ⟨j, rfl⟩ : ∃ j, k = j + 1 := ⟨k - 1, by omega⟩
          rw [Nat.add_sub_cancel] at hcell1
          have hcell1' : wr.cell? ⟨b, off + j, none⟩ = some (.float .f64 (bs j)) := (hd.cell _).trans hcell1
          clear hcell1
          have hbk1 := HB.out j (by omega)
          have cp := fun w => compare40 hbk1 hbk w
          have hw1 : IntKind.i64.wrap (((j + 1 : Nat) : Int) - 1) = (j : Int) := by rw [IntKind.wrap_i64]; omega
          have HX := Lib.hid hx
          by_cases hc : key (bs j) < key (bs (j + 1))
          · have hcm : cmpN (key (bs j)) (key (bs (j + 1))) = -1 := by unfold cmpN; rw [if_pos hc]
            rw [hcm] at cp
            have CP := Lib.hid cp
            have HC := Lib.hid hc
            clear cp hcm hc hbk hbk1 hx
            go_wp2_with fail

            go_quiet ((first | (go_at_call 48; exact quiet_left (NN.out _)) | (go_at_call 40; exact quiet_left (CP.out _))))

            go_wp2_with fail
            go_roundw
            case rel =>
              refine ⟨j + 1 + 1, by omega, by go_num, fun t ht => ?_, fun t h0 ht => ?_, hd.trans ⟨_, rfl⟩⟩
              · by_cases htk : t = j + 1
                · rw [htk]; exact HX.out
                · exact HN.out t (by omega)
              · by_cases htk : t = j + 1
                · rw [htk]; exact HC.out
                · exact HU.out t h0 (by omega)
            case measure => simp [intOf]; omega
          · have hcm : 0 ≤ cmpN (key (bs j)) (key (bs (j + 1))) := by unfold cmpN; rw [if_neg hc]; split <;> omega
            have CP := Lib.hid cp
            have HF : Hid (¬ Fit n bs) := Lib.hid (fun hf => hc (hf.up (j + 1) (by omega) hlt))
            generalize cmpN (key (bs j)) (key (bs (j + 1))) = cv at CP hcm
            clear cp hc hbk hbk1 hx
            go_wp2_with fail
            go_quiet ((first | (go_at_call 48; exact quiet_left (NN.out _)) | (go_at_call 40; exact quiet_left (CP.out _))))
            go_wp2_with fail
            go_ret2
            exact .inr ⟨HF.out, rfl, (hd.trans ⟨_, rfl⟩).below⟩
      · have NN := Lib.hid (nan_yes hx hbk)
        have HF : Hid (¬ Fit n bs) := Lib.hid (fun hf => hx (hf.num k hlt))
        clear hx
        go_wp2_with fail
        go_quiet ((go_at_call 48; exact quiet_left (NN.out _)))
        go_wp2_with fail
        go_ret2
        exact .inr ⟨HF.out, rfl, (hd.trans ⟨_, rfl⟩).below⟩
    · have hkn : k = n := by omega
      subst hkn
      have HF : Hid (Fit k bs) := Lib.hid ⟨HN.out, HU.out⟩
      have hB := hd.below
      have hsz : wr.heap.size = w.heap.size := by obtain ⟨m, rfl⟩ := hd; rfl
      have HSZ := Lib.hid hsz
      have HBE := Lib.hid hB
      clear HN HU hsz hB
      have hmk := fun w => run_make_cells (k + 1) (by omega) w
      rw [show ((k + 1 : Nat) : Int) = (k : Int) + 1 from by omega] at hmk
      by_cases hz : k = 0
      · subst hz
        have hmk1 := fun w => run_make_cells 1 (by omega) w
        rw [show ((1 : Nat) : Int) = 1 from rfl] at hmk1
        have hw1 : IntKind.i64.wrap 1 = 1 := by decide
        go_wp2_with fail
        go_region_law (refine step_append_none rfl (.tmp 36) rfl rfl sl cap rfl ?_)
        all_goals
          go_wp2_with fail
          go_ret2
          have z := HSZ.out
          refine .inl ⟨HF.out, _, wr.heap.size, wr.heap.size, rfl, refg_of_blocks (sl := none) (cap := 0) (ccap := 1) (alloc_at _ _ _ (by simp)) ((alloc_past _ _ _ (by simp)).trans (alloc_at _ _ _ (by simp))) (fun h => absurd h (Nat.lt_irrefl 0)) (by simp; omega) (by omega) (by omega) (fun h => absurd h (Nat.lt_irrefl 0)), by omega, by omega, by omega, ?_⟩
          exact HBE.out.trans (((((Below.refl wr.heap.size wr).drew).alloc (by simp) _).alloc (by simp) _).mono (by omega))
      · have hn0 : 0 < k := by omega
        obtain ⟨b, off, rfl, hbw, _⟩ := HS.out 0 hn0
        have hbw' : b < wr.heap.size := by rw [HSZ.out]; exact hbw
        have hcs : ∀ j, j < k → wr.cell? ((⟨b, off, none⟩ : Addr).add j) = some (.float .f64 (bs j)) := by
          intro j hj
          obtain ⟨b', off', e', _, hcell'⟩ := HS.out j hj
          injection e' with e'
          injection e' with e1 e2
          subst e1; subst e2
          rw [add_lit']; exact (hd.cell _).trans hcell'
        have hcs2 : ∀ o, ∀ j, j < k → (wr.alloc o).cell? ((⟨b, off, none⟩ : Addr).add j) = some (.float .f64 (bs j)) := fun o j hj => by
          have := hcs j hj
          rw [add_lit'] at this ⊢
          exact (cell_old wr _ _ _ hbw').trans this
        have HC1 := Lib.hid hcs
        have HC2 := Lib.hid hcs2
        clear hcs hcs2
        have hw1 : IntKind.i64.wrap ((k : Int) + 1) = (k : Int) + 1 := by rw [IntKind.wrap_i64]; omega
        go_wp2_with fail
        go_region_law ((refine step_append_floats rfl (.tmp 36) rfl rfl ⟨b, off, none⟩ k cap bs rfl hn0 hn ?_ ?_; (first | exact HC1.out | exact HC2.out _)))
        all_goals
          go_wp2_with fail
          go_ret2
        · have z := HSZ.out
          refine .inl ⟨HF.out, _, wr.heap.size + 1, wr.heap.size, rfl, refg_of_blocks (alloc_at _ _ _ (by simp)) ((alloc_past _ _ _ (by simp)).trans (alloc_at _ _ _ (by simp))) (fun _ => ⟨rfl, _, (alloc_past _ _ _ (by simp; omega)).trans ((alloc_past _ _ _ (by simp)).trans (alloc_at _ _ _ rfl))⟩) (by simp; omega) (by omega) (by omega) (fun _ => by omega), by omega, by omega, by omega, ?_⟩
          exact HBE.out.trans ((((((Below.refl wr.heap.size wr).alloc (Nat.le_refl _) _).drew.drew).alloc (by simp) _).alloc (by simp; omega) _).mono (by omega))
        · have z := HSZ.out
          refine .inl ⟨HF.out, _, wr.heap.size, wr.heap.size + 1, rfl, refg_of_blocks (alloc_at _ _ _ (by simp)) ((alloc_past _ _ _ (by simp; omega)).trans ((alloc_past _ _ _ (by simp)).trans (alloc_at _ _ _ rfl))) (fun _ => ⟨rfl, _, (alloc_past _ _ _ (by simp)).trans (alloc_at _ _ _ (by simp))⟩) (by simp) (by omega) (by omega) (fun _ => by omega), by omega, by omega, by omega, ?_⟩
          exact HBE.out.trans ((((((Below.refl wr.heap.size wr).alloc (Nat.le_refl _) _).drew.drew).alloc (by simp) _).alloc (by simp; omega) _).mono (by omega))
end Go.Proofs.Ytofjgnlolmaidaa
