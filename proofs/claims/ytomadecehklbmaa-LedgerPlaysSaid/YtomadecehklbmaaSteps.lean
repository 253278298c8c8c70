/-
  How a list of steps that came in is read: each step's three numbers lie in memory.
-/
import Derived.Test.YtomadecehklbmaaLedgerP
import Derived.Deep.Slices
import Derived.Deep.Fields
import Derived.ProofKit
namespace Go.Proofs.Ytomadecehklbmaa
open Go.RowKit Go.ChangeShapes Go.WideShapes Go.Deep
set_option linter.unusedVariables false

theorem step_cells : Try.prog.cellsOf 30 = 3 := by kernel_rfl

section
variable {H : Type} {enc : TypeId × Value → H} {w : World}
theorem open_step {spare : Nat → Bool} {held : Bool} {fuel : Nat} {cs : List Value} {x : DataW H × List MemPlace} (h : DataW.trod enc Try.prog w 0 spare held fuel 30 cs = some x) : ∃ a b c : Int, cs = [.int .i64 a, .int .i64 b, .int .i64 c] := by
  obtain ⟨ys, n, _, _, hl, _, hf⟩ := DataW.trod_struct Try.underlying30 h
  rw [step_cells] at hl
  have c1 : Try.prog.cellsOf 3 = 1 := by kernel_rfl
  match cs, hl with
  | [v0, v1, v2], _ =>
    have f0 : DataW.trod enc Try.prog w 0 spare held n 3 [v0] = ys[0]? := by have := hf 0 _ rfl; simpa [c1] using this
    have f1 : DataW.trod enc Try.prog w 0 spare held n 3 [v1] = ys[1]? := by have := hf 1 _ rfl; simpa [c1] using this
    have f2 : DataW.trod enc Try.prog w 0 spare held n 3 [v2] = ys[2]? := by have := hf 2 _ rfl; simpa [c1] using this
    have get : ∀ {v : Value} {i : Nat}, i < ys.length → DataW.trod enc Try.prog w 0 spare held n 3 [v] = ys[i]? → ∃ a : Int, v = .int .i64 a := by
      intro v i hi hv
      rw [List.getElem?_eq_getElem hi] at hv
      obtain ⟨a, ha, _⟩ := DataW.trod_int Try.underlying3 hv
      exact ⟨a, by simpa using ha⟩
    have hy : ys.length = 3 := by assumption
    obtain ⟨a, rfl⟩ := get (by omega) f0
    obtain ⟨b, rfl⟩ := get (by omega) f1
    obtain ⟨c, rfl⟩ := get (by omega) f2
    exact ⟨a, b, c, rfl⟩

theorem open_steps {P : Option Addr} {n c : Nat} {d : DataW H} {p : List MemPlace} (h : DataW.Trod enc Try.prog w 0 (fun _ => true) true 22 (.slice P n c) d p) (hlt : ∀ x ∈ p, x.block < w.heap.size) :
    ∃ (bs off : Nat) (S : Nat → Int × Int × Int), (0 < n → P = some ⟨bs, off, none⟩) ∧ (0 < n → StepsAt w bs off n S) ∧ n ≤ maxLen := by
  obtain ⟨fuel, hf⟩ := h
  rcases open_slice Try.underlying22 hf with ⟨hcs, _⟩ | ⟨a, len, cap, m, k, D, Pl, hcs, _, hl, hm, hmm, hx, hi⟩
  · simp [Value.cells] at hcs
    obtain ⟨rfl, rfl, rfl⟩ := hcs
    exact ⟨0, 0, fun _ => (0, 0, 0), by omega, by omega, by omega⟩
  · simp [Value.cells] at hcs
    obtain ⟨rfl, rfl, rfl⟩ := hcs
    simp at hmm
    subst hmm
    have key : ∀ i, i < n → ∃ s : Int × Int × Int, w.cell? (a.add (i * 3)) = some (.int .i64 s.1) ∧ w.cell? ((a.add (i * 3)).add 1) = some (.int .i64 s.2.1) ∧ w.cell? ((a.add (i * 3)).add 2) = some (.int .i64 s.2.2) := by
      intro i hin
      obtain ⟨cs', hc, ht⟩ := hi i (by omega)
      rw [step_cells] at hc
      obtain ⟨x, y, z, rfl⟩ := open_step ht
      obtain ⟨_, _, hat⟩ := World.cells?_some hc
      exact ⟨(x, y, z), by simpa [Addr.add] using hat 0 (by omega), hat 1 (by omega), hat 2 (by omega)⟩
    by_cases h0 : 0 < n
    · obtain ⟨bs, off, spot⟩ := a
      obtain ⟨s0, e0, _⟩ := key 0 h0
      have hspot : spot = none := by simpa [Addr.add] using World.cell?_spot e0
      subst hspot
      have hb : bs < w.heap.size := World.block_lt_of_cell? (h := e0)
      refine ⟨bs, off, fun i => if hi : i < n then (key i hi).choose else (0, 0, 0), fun _ => rfl, fun _ => ⟨hb, fun i hin => ?_⟩, by omega⟩
      have hs := (key i hin).choose_spec
      simp only [dif_pos hin]
      refine ⟨?_, ?_, ?_⟩
      · rw [← add_plain]; exact hs.1
      · rw [← add_plain, ← add_plain]; exact hs.2.1
      · rw [← add_plain, ← add_plain]; exact hs.2.2
    · exact ⟨0, 0, fun _ => (0, 0, 0), by omega, by omega, by omega⟩
end
end Go.Proofs.Ytomadecehklbmaa
