/-
  How a row of whole numbers that came in is read.
-/
import Derived.Test.YtfghfmlhoelbkaaWWords
import Derived.ChangeSlices
import Derived.ProofKit
namespace Go.Proofs.Ytfghfmlhoelbkaa
open Go.RowKit Go.ChangeShapes Go.WideShapes Go.Proofs.YtfghfmlhoelbkaaW.PrintWords
set_option linter.unusedVariables false

theorem open_row {P : Program} {H : Type} {enc : TypeId × Value → H} {w : World} {base : Nat} {held : Bool} {t e : TypeId} {k : IntKind} {a : Option Addr} {n c : Nat} {d : DataW H} {p : List MemPlace}
    (hu : P.underlying t = some (.slice e)) (he : P.underlying e = some (.int k)) (hc : P.cellsOf e = 1) (h : DataW.Trod enc P w base (fun _ => true) held t (.slice a n c) d p) :
    ∃ l : List Int, n = l.length ∧ l.length ≤ c ∧ Kd.C (Kd.int k) w a l.length l ∧ (∀ x ∈ l, (Lit.int k x).wf = true) := by
  obtain ⟨fuel, hf⟩ := h
  rcases open_ints hu he hc hf with ⟨hcs, _⟩ | ⟨x, len, cap, zs, hcs, _, hl, hm, hz, hx, hcell, hwf⟩
  · simp [Value.cells] at hcs
    obtain ⟨rfl, rfl, rfl⟩ := hcs
    exact ⟨[], rfl, Nat.le_refl _, ⟨rfl, Nat.zero_le _, fun h => absurd h (Nat.lt_irrefl _)⟩, fun x hx => by cases hx⟩
  · simp [Value.cells] at hcs
    obtain ⟨rfl, rfl, rfl⟩ := hcs
    rw [if_pos rfl] at hz
    have hlen : (zs.take n).length = n := by simp; omega
    refine ⟨zs.take n, hlen.symm, by omega, ⟨rfl, ?_, fun _ => ⟨x, rfl, fun j q hq => ⟨[.int k q], rfl, rfl, fun i u hi => ?_⟩⟩⟩, fun y hy => hwf y (List.mem_of_mem_take hy)⟩
    · rw [hlen]; unfold maxLen at hm; omega
    · have hi0 : i = 0 := by
        rcases i with _ | i
        · rfl
        · simp at hi
      subst hi0
      simp at hi
      subst hi
      show w.cell? (x.add (j * 1 + 0)) = _
      rw [show j * 1 + 0 = j by omega]
      have hj : j < (zs.take n).length := (List.getElem?_eq_some_iff.1 hq).1
      rw [hlen] at hj
      rw [hcell j (by omega)]
      rw [List.getElem?_take, if_pos hj] at hq
      rw [List.getD_eq_getElem?_getD, hq]; rfl

end Go.Proofs.Ytfghfmlhoelbkaa
