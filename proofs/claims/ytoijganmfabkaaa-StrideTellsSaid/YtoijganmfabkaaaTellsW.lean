/-
  StrideTells: the walk.
-/
import Derived.Test.YtoijganmfabkaaaStride
import Derived.RowKit3
namespace Go.Proofs.Ytoijganmfabkaaa
open Go.RowKit

theorem tells_walk (a b p now n m : Int) (w : World) :
    Calls Try.prog 3 #[.int .i64 a, .int .i64 b, .int .i64 p, .int .i64 now, .int .i64 n, .int .i64 m] w fun e w' => e = .returned (.bool true) ∧ w = w' := by
  by_cases ha : isW a = true
  case neg =>
    have ha' : isW a = false := by simpa using ha
    go_enter Try.func3, Try.ntmps3
    go_wp2_with (first | (go_at_call 7; refine (known_any _).mono ?_; rintro e w' ⟨rfl, rfl⟩) | (go_at_call 8; refine (is_any _ _).mono ?_; rintro e w' ⟨rfl, rfl⟩) | (go_at_call 9; refine (isweight_any _ _).mono ?_; rintro e w' ⟨rfl, rfl⟩) | (go_at_call 10; refine (of_any _ _).mono ?_; rintro e w' ⟨rfl, rfl⟩) | (go_at_call 11; refine (rof_any _ _).mono ?_; rintro e w' ⟨rfl, rfl⟩) | (go_at_call 12; refine (fair_any _ _ _ _ _).mono ?_; rintro e w' ⟨rfl, rfl⟩) | (go_at_call 13; refine (rfair_any _ _ _ _ _).mono ?_; rintro e w' ⟨rfl, rfl⟩) | (go_at_call 14; refine (next_any _ _ _).mono ?_; rintro e w' ⟨rfl, rfl⟩) | (go_at_call 15; refine (rnext_any _ _ _).mono ?_; rintro e w' ⟨rfl, rfl⟩) | (go_at_call 16; refine (scale_any _ _ _ _ _ ha h3 h2 h4 h1).mono ?_; rintro e w' ⟨rfl, rfl⟩) | (go_at_call 17; refine (rscale_any _ _ _ _ _ ha h3 h2 h4 h1).mono ?_; rintro e w' ⟨rfl, rfl⟩))
    go_ret
    exact ⟨rfl, rfl⟩
  by_cases hb : isW b = true
  case neg =>
    have hb' : isW b = false := by simpa using hb
    go_enter Try.func3, Try.ntmps3
    go_wp2_with (first | (go_at_call 7; refine (known_any _).mono ?_; rintro e w' ⟨rfl, rfl⟩) | (go_at_call 8; refine (is_any _ _).mono ?_; rintro e w' ⟨rfl, rfl⟩) | (go_at_call 9; refine (isweight_any _ _).mono ?_; rintro e w' ⟨rfl, rfl⟩) | (go_at_call 10; refine (of_any _ _).mono ?_; rintro e w' ⟨rfl, rfl⟩) | (go_at_call 11; refine (rof_any _ _).mono ?_; rintro e w' ⟨rfl, rfl⟩) | (go_at_call 12; refine (fair_any _ _ _ _ _).mono ?_; rintro e w' ⟨rfl, rfl⟩) | (go_at_call 13; refine (rfair_any _ _ _ _ _).mono ?_; rintro e w' ⟨rfl, rfl⟩) | (go_at_call 14; refine (next_any _ _ _).mono ?_; rintro e w' ⟨rfl, rfl⟩) | (go_at_call 15; refine (rnext_any _ _ _).mono ?_; rintro e w' ⟨rfl, rfl⟩) | (go_at_call 16; refine (scale_any _ _ _ _ _ ha h3 h2 h4 h1).mono ?_; rintro e w' ⟨rfl, rfl⟩) | (go_at_call 17; refine (rscale_any _ _ _ _ _ ha h3 h2 h4 h1).mono ?_; rintro e w' ⟨rfl, rfl⟩))
    go_ret
    exact ⟨rfl, rfl⟩
  by_cases h1 : 0 ≤ p
  case neg =>
    go_enter Try.func3, Try.ntmps3
    go_wp2_with (first | (go_at_call 7; refine (known_any _).mono ?_; rintro e w' ⟨rfl, rfl⟩) | (go_at_call 8; refine (is_any _ _).mono ?_; rintro e w' ⟨rfl, rfl⟩) | (go_at_call 9; refine (isweight_any _ _).mono ?_; rintro e w' ⟨rfl, rfl⟩) | (go_at_call 10; refine (of_any _ _).mono ?_; rintro e w' ⟨rfl, rfl⟩) | (go_at_call 11; refine (rof_any _ _).mono ?_; rintro e w' ⟨rfl, rfl⟩) | (go_at_call 12; refine (fair_any _ _ _ _ _).mono ?_; rintro e w' ⟨rfl, rfl⟩) | (go_at_call 13; refine (rfair_any _ _ _ _ _).mono ?_; rintro e w' ⟨rfl, rfl⟩) | (go_at_call 14; refine (next_any _ _ _).mono ?_; rintro e w' ⟨rfl, rfl⟩) | (go_at_call 15; refine (rnext_any _ _ _).mono ?_; rintro e w' ⟨rfl, rfl⟩) | (go_at_call 16; refine (scale_any _ _ _ _ _ ha h3 h2 h4 h1).mono ?_; rintro e w' ⟨rfl, rfl⟩) | (go_at_call 17; refine (rscale_any _ _ _ _ _ ha h3 h2 h4 h1).mono ?_; rintro e w' ⟨rfl, rfl⟩))
    go_ret
    exact ⟨rfl, rfl⟩
  by_cases h2 : p ≤ 1099511627776
  case neg =>
    go_enter Try.func3, Try.ntmps3
    go_wp2_with (first | (go_at_call 7; refine (known_any _).mono ?_; rintro e w' ⟨rfl, rfl⟩) | (go_at_call 8; refine (is_any _ _).mono ?_; rintro e w' ⟨rfl, rfl⟩) | (go_at_call 9; refine (isweight_any _ _).mono ?_; rintro e w' ⟨rfl, rfl⟩) | (go_at_call 10; refine (of_any _ _).mono ?_; rintro e w' ⟨rfl, rfl⟩) | (go_at_call 11; refine (rof_any _ _).mono ?_; rintro e w' ⟨rfl, rfl⟩) | (go_at_call 12; refine (fair_any _ _ _ _ _).mono ?_; rintro e w' ⟨rfl, rfl⟩) | (go_at_call 13; refine (rfair_any _ _ _ _ _).mono ?_; rintro e w' ⟨rfl, rfl⟩) | (go_at_call 14; refine (next_any _ _ _).mono ?_; rintro e w' ⟨rfl, rfl⟩) | (go_at_call 15; refine (rnext_any _ _ _).mono ?_; rintro e w' ⟨rfl, rfl⟩) | (go_at_call 16; refine (scale_any _ _ _ _ _ ha h3 h2 h4 h1).mono ?_; rintro e w' ⟨rfl, rfl⟩) | (go_at_call 17; refine (rscale_any _ _ _ _ _ ha h3 h2 h4 h1).mono ?_; rintro e w' ⟨rfl, rfl⟩))
    go_ret
    exact ⟨rfl, rfl⟩
  by_cases h3 : 0 ≤ now
  case neg =>
    go_enter Try.func3, Try.ntmps3
    go_wp2_with (first | (go_at_call 7; refine (known_any _).mono ?_; rintro e w' ⟨rfl, rfl⟩) | (go_at_call 8; refine (is_any _ _).mono ?_; rintro e w' ⟨rfl, rfl⟩) | (go_at_call 9; refine (isweight_any _ _).mono ?_; rintro e w' ⟨rfl, rfl⟩) | (go_at_call 10; refine (of_any _ _).mono ?_; rintro e w' ⟨rfl, rfl⟩) | (go_at_call 11; refine (rof_any _ _).mono ?_; rintro e w' ⟨rfl, rfl⟩) | (go_at_call 12; refine (fair_any _ _ _ _ _).mono ?_; rintro e w' ⟨rfl, rfl⟩) | (go_at_call 13; refine (rfair_any _ _ _ _ _).mono ?_; rintro e w' ⟨rfl, rfl⟩) | (go_at_call 14; refine (next_any _ _ _).mono ?_; rintro e w' ⟨rfl, rfl⟩) | (go_at_call 15; refine (rnext_any _ _ _).mono ?_; rintro e w' ⟨rfl, rfl⟩) | (go_at_call 16; refine (scale_any _ _ _ _ _ ha h3 h2 h4 h1).mono ?_; rintro e w' ⟨rfl, rfl⟩) | (go_at_call 17; refine (rscale_any _ _ _ _ _ ha h3 h2 h4 h1).mono ?_; rintro e w' ⟨rfl, rfl⟩))
    go_ret
    exact ⟨rfl, rfl⟩
  by_cases h4 : now ≤ 1099511627776
  case neg =>
    go_enter Try.func3, Try.ntmps3
    go_wp2_with (first | (go_at_call 7; refine (known_any _).mono ?_; rintro e w' ⟨rfl, rfl⟩) | (go_at_call 8; refine (is_any _ _).mono ?_; rintro e w' ⟨rfl, rfl⟩) | (go_at_call 9; refine (isweight_any _ _).mono ?_; rintro e w' ⟨rfl, rfl⟩) | (go_at_call 10; refine (of_any _ _).mono ?_; rintro e w' ⟨rfl, rfl⟩) | (go_at_call 11; refine (rof_any _ _).mono ?_; rintro e w' ⟨rfl, rfl⟩) | (go_at_call 12; refine (fair_any _ _ _ _ _).mono ?_; rintro e w' ⟨rfl, rfl⟩) | (go_at_call 13; refine (rfair_any _ _ _ _ _).mono ?_; rintro e w' ⟨rfl, rfl⟩) | (go_at_call 14; refine (next_any _ _ _).mono ?_; rintro e w' ⟨rfl, rfl⟩) | (go_at_call 15; refine (rnext_any _ _ _).mono ?_; rintro e w' ⟨rfl, rfl⟩) | (go_at_call 16; refine (scale_any _ _ _ _ _ ha h3 h2 h4 h1).mono ?_; rintro e w' ⟨rfl, rfl⟩) | (go_at_call 17; refine (rscale_any _ _ _ _ _ ha h3 h2 h4 h1).mono ?_; rintro e w' ⟨rfl, rfl⟩))
    go_ret
    exact ⟨rfl, rfl⟩
  have h2 : p ≤ 2199023255552 := by omega
  have h4 : now ≤ 2199023255552 := by omega
  go_enter Try.func3, Try.ntmps3
  go_wp2_with (first | (go_at_call 7; refine (known_any _).mono ?_; rintro e w' ⟨rfl, rfl⟩) | (go_at_call 8; refine (is_any _ _).mono ?_; rintro e w' ⟨rfl, rfl⟩) | (go_at_call 9; refine (isweight_any _ _).mono ?_; rintro e w' ⟨rfl, rfl⟩) | (go_at_call 10; refine (of_any _ _).mono ?_; rintro e w' ⟨rfl, rfl⟩) | (go_at_call 11; refine (rof_any _ _).mono ?_; rintro e w' ⟨rfl, rfl⟩) | (go_at_call 12; refine (fair_any _ _ _ _ _).mono ?_; rintro e w' ⟨rfl, rfl⟩) | (go_at_call 13; refine (rfair_any _ _ _ _ _).mono ?_; rintro e w' ⟨rfl, rfl⟩) | (go_at_call 14; refine (next_any _ _ _).mono ?_; rintro e w' ⟨rfl, rfl⟩) | (go_at_call 15; refine (rnext_any _ _ _).mono ?_; rintro e w' ⟨rfl, rfl⟩) | (go_at_call 16; refine (scale_any _ _ _ _ _ ha h3 h2 h4 h1).mono ?_; rintro e w' ⟨rfl, rfl⟩) | (go_at_call 17; refine (rscale_any _ _ _ _ _ ha h3 h2 h4 h1).mono ?_; rintro e w' ⟨rfl, rfl⟩))
  go_ret
  exact ⟨rfl, rfl⟩
end Go.Proofs.Ytoijganmfabkaaa
