/-
  LedgerApart: the walk.
-/
import Derived.Test.YtomadecehklbmaaApartA
import Derived.Test.YtomadecehklbmaaApartB
namespace Go.Proofs.Ytomadecehklbmaa
open Go.RowKit

theorem apart_walk (P : Option Addr) (bs off n c : Nat) (S : Nat → Int × Int × Int) (o f wi : Int) (w : World) (hP : 0 < n → P = some ⟨bs, off, none⟩) (hS : 0 < n → StepsAt w bs off n S) (hn : n ≤ 9223372036854775807) :
    Calls Try.prog 5 #[.slice P n c, .agg #[.int .i64 o, .int .i64 f, .int .i64 wi]] w fun e w' => e = .returned (.bool true) ∧ Below w.heap.size w w' := by
  by_cases h60 : 60 < n
  · exact apart_many P n c o f wi w (by omega)
  · by_cases hn0 : n ≤ 0
    · exact apart_none P n c S o f wi w (by omega) (by simp; omega) hn0
    · exact apart_some P bs off n c S o f wi w hP hS hn (by omega) (by simp; omega) hn0
end Go.Proofs.Ytomadecehklbmaa
