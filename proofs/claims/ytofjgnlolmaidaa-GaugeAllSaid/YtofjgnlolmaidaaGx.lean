/- Two lists of whole numbers that are the same; what many puts come to. -/
import Derived.Test.YtofjgnlolmaidaaGw
import Derived.BigQuiet
namespace Go.Proofs.Ytofjgnlolmaidaa
set_option linter.unusedVariables false
open Go.RowKit

set_option maxHeartbeats 1000000 in
theorem cells37 {w : World} {d d' n cap cap' : Nat} {f : Nat → Int} (h : IntsAt w d n f) (h' : IntsAt w d' n f) (hn : (n : Int) ≤ 1000) :
    Calls Try.prog 37 #[.slice (some ⟨d, 0, none⟩) n cap, .slice (some ⟨d', 0, none⟩) n cap'] w fun e w' => e = .returned (.bool true) ∧ Drawn w w' := by
  have C := Lib.hid h.cel
  have C' := Lib.hid h'.cel
  clear h h'
  go_enter Try.func37, Try.ntmps37
  go_wp2_with fail
  go_loopw [5] (fun i wr => ∃ k : Nat, k ≤ n ∧ i = .int .i64 k ∧ Drawn w wr) (fun i _ => n - (intOf i).toNat)
  case atStart => exact ⟨0, Nat.zero_le _, rfl, Drawn.refl _⟩
  case round =>
    obtain ⟨k, hk, rfl, hd⟩ := hrel
    by_cases hlt : k < n
    · have c1 : wr.cell? ⟨d, k, none⟩ = some (.int .i64 (f k)) := (hd.cell _).trans (C.out k hlt)
      have c2 : wr.cell? ⟨d', k, none⟩ = some (.int .i64 (f k)) := (hd.cell _).trans (C'.out k hlt)
      go_wp2_with fail
      go_quiet (fail)
      go_wp2_with fail
      go_roundw
      case rel => exact ⟨k + 1, by omega, by go_num, hd.trans ⟨_, rfl⟩⟩
      case measure => simp [intOf]; omega
    · go_wp2_with fail
      go_ret
      exact ⟨rfl, hd⟩

/-- Told of the first k numbers of f. -/
def pn (g : Gau) (f : Nat → Nat) : Nat → Gau
  | 0 => g
  | k + 1 => put (pn g f k) (f k)
theorem pn_sane {g : Gau} {B : Int} {f : Nat → Nat} (h : Sane g B) (hf : ∀ i, f i < 18446744073709551616) : ∀ k : Nat, Sane (pn g f k) (B + k)
  | 0 => by show Sane g (B + 0); rw [Int.add_zero]; exact h
  | k + 1 => by
    have := (pn_sane h hf k).put (hf k)
    rw [show B + ((k + 1 : Nat) : Int) = B + (k : Int) + 1 by omega]
    exact this
theorem pn_told {n : Nat} {bs : Nat → Nat} {g : Gau} {L : List Nat} (f : Nat → Nat) (h : Told n bs g L) : ∀ k, Told n bs (pn g f k) (((List.range k).map f).reverse ++ L)
  | 0 => h
  | k + 1 => by
    have := (pn_told f h k).put (f k)
    rw [List.range_succ, List.map_append, List.reverse_append]
    exact this
end Go.Proofs.Ytofjgnlolmaidaa
