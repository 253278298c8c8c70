/-
  The examples that the statements of package share look at first.
-/
import Derived.Test.YtfghfmlhoelbkaaShareEx
namespace Go.Proofs.Ytfghfmlhoelbkaa
open Go.RowKit Go.Proofs.YtfghfmlhoelbkaaW.PrintWords
set_option linter.unusedSimpArgs false
set_option linter.unusedVariables false

/-- A row of whole numbers that was just built. -/
theorem C_built (w : World) (xs : List Int) (t : TypeId) (h : xs.length ≤ 1000) {n : Nat} (hn : w.heap.size = n) : Kd.C (Kd.int .i64) (w.alloc (.cells (xs.map (Value.int .i64)).toArray t)) (some ⟨n, 0, none⟩) xs.length xs := by
  subst hn
  refine ⟨rfl, by omega, fun _ => ⟨_, rfl, fun j p hp => ⟨[.int .i64 p], rfl, rfl, fun i u hu => ?_⟩⟩⟩
  have hi : i = 0 := by
    rcases i with _ | i
    · rfl
    · simp at hu
  subst hi
  simp at hu
  subst hu
  show World.cell? _ ((⟨w.heap.size, 0, none⟩ : Addr).add (j * 1 + 0)) = _
  rw [show j * 1 + 0 = j by omega]
  refine World.news_of_block (heap_alloc_new w _) j _ ?_
  simp [hp]

theorem ex_yes (W : World) (n : Nat) (A : Option Addr) (c : Nat) (h1 : Kd.C (Kd.int .i64) W (some ⟨n, 0, none⟩) 3 [1, 1, 1]) (h2 : Kd.C (Kd.int .i64) W A 3 [4, 3, 3]) (hc : 3 ≤ c) :
    Calls Try.prog 12 #[.int .i64 10, .slice (some ⟨n, 0, none⟩) 3 3, .slice A 3 c] W fun e w' => e = .returned (.bool true) ∧ ∃ n, w' = W.drewN n := by
  have k : exB 10 [1, 1, 1] [4, 3, 3] = true := by decide +kernel
  have := exact_any W 10 _ [1, 1, 1] 3 A [4, 3, 3] c h1 (by decide) h2 hc
  rw [k] at this
  exact this
theorem ex_no (W : World) (n m : Nat) (h1 : Kd.C (Kd.int .i64) W (some ⟨n, 0, none⟩) 3 [1, 1, 1]) (h2 : Kd.C (Kd.int .i64) W (some ⟨m, 0, none⟩) 3 [5, 3, 2]) :
    Calls Try.prog 12 #[.int .i64 10, .slice (some ⟨n, 0, none⟩) 3 3, .slice (some ⟨m, 0, none⟩) 3 3] W fun e w' => e = .returned (.bool false) ∧ ∃ n, w' = W.drewN n := by
  have k : exB 10 [1, 1, 1] [5, 3, 2] = false := by decide +kernel
  have := exact_any W 10 _ [1, 1, 1] 3 _ [5, 3, 2] 3 h1 (by decide) h2 (by decide)
  rw [k] at this
  exact this
theorem cnt_yes (W : World) (n : Nat) (h1 : Kd.C (Kd.int .i64) W (some ⟨n, 0, none⟩) 3 [1, 1, 1]) :
    Calls Try.prog 10 #[.int .i64 10, .slice (some ⟨n, 0, none⟩) 3 3] W fun e w' => ∃ A c, e = .returned (.slice A 3 c) ∧ 3 ≤ c ∧ Kd.C (Kd.int .i64) w' A 3 [4, 3, 3] ∧ Below W.heap.size W w' := by
  have k : cnt 10 [1, 1, 1] = [4, 3, 3] := by decide +kernel
  refine (counts_any W 10 _ [1, 1, 1] 3 h1 (by decide)).mono ?_
  rw [k]
  rintro e w' ⟨v, rfl, hR, hb⟩
  obtain ⟨A, c, rfl, hcl, hC⟩ := Kd.R_reads hR
  exact ⟨A, c, rfl, hcl, hC, hb⟩
theorem cnt_no (W : World) (n : Nat) (h1 : Kd.C (Kd.int .i64) W (some ⟨n, 0, none⟩) 1 [1]) :
    Calls Try.prog 10 #[.int .i64 0, .slice (some ⟨n, 0, none⟩) 1 1] W fun e w' => ∃ A c, e = .returned (.slice A 0 c) ∧ Below W.heap.size W w' := by
  have k : cnt 0 [1] = [] := by decide +kernel
  refine (counts_any W 0 _ [1] 1 h1 (by decide)).mono ?_
  rw [k]
  rintro e w' ⟨v, rfl, hR, hb⟩
  obtain ⟨A, c, rfl, hcl, hC⟩ := Kd.R_reads hR
  exact ⟨A, c, rfl, hb⟩
theorem same_yes (W : World) (A : Option Addr) (c m : Nat) (h1 : Kd.C (Kd.int .i64) W A 3 [4, 3, 3]) (hc : 3 ≤ c) (h2 : Kd.C (Kd.int .i64) W (some ⟨m, 0, none⟩) 3 [4, 3, 3]) :
    Calls Try.prog 9 #[.slice A 3 c, .slice (some ⟨m, 0, none⟩) 3 3] W fun e w' => e = .returned (.bool true) ∧ ∃ n, w' = W.drewN n :=
  same_any W A [4, 3, 3] c _ [4, 3, 3] 3 (by decide) h1 hc h2 (by decide)
theorem C_three (w : World) (x y z : Int) (t : TypeId) {n : Nat} (hn : w.heap.size = n) : Kd.C (Kd.int .i64) (w.alloc (.cells #[.int .i64 x, .int .i64 y, .int .i64 z] t)) (some ⟨n, 0, none⟩) 3 [x, y, z] := C_built w [x, y, z] t (by simp) hn
theorem C_one (w : World) (x : Int) (t : TypeId) {n : Nat} (hn : w.heap.size = n) : Kd.C (Kd.int .i64) (w.alloc (.cells #[.int .i64 x] t)) (some ⟨n, 0, none⟩) 1 [x] := C_built w [x] t (by simp) hn

theorem known_any (w : World) : Calls Try.prog 8 #[] w fun e w' => e = .returned (.bool true) ∧ Below w.heap.size w w' := by
  go_enter Try.func8, Try.ntmps8
  go_wp2_with (first
    | (go_at_call 10; refine (cnt_yes _ _ (C_three _ _ _ _ _ (by simp))).mono ?_; rintro e w1 ⟨A, c, rfl, hc3, hC, hb⟩)
    | (go_at_call 9; refine (same_yes _ _ _ _ (Kd.C_alloc hC _) hc3 (C_three _ _ _ _ _ (by simp))).mono ?_; rintro e w2 ⟨rfl, nd, rfl⟩))
  refine (ex_yes _ _ _ _ (C_three _ _ _ _ _ (by simp)) (Kd.C_alloc (Kd.C_drewN (Kd.C_alloc hC _) _) _) hc3).mono ?_
  rintro e w2 ⟨rfl, nd2, rfl⟩
  go_wp2_with fail
  refine (ex_no _ _ _ (Kd.C_alloc (C_three _ _ _ _ _ (by simp)) _) (C_three _ _ _ _ _ (by simp))).mono ?_
  rintro e w2 ⟨rfl, nd3, rfl⟩
  go_wp2_with fail
  refine (cnt_no _ _ (C_one _ _ _ (by simp))).mono ?_
  rintro e w3 ⟨A2, c2, rfl, hb2⟩
  go_wp2
  go_ret
  have b1 := ((Below.refl _ w).alloc (Nat.le_refl _) (.cells #[.int .i64 1, .int .i64 1, .int .i64 1] 3)).trans (hb.mono (by simp))
  have s1 := b1.size
  refine ⟨rfl, ?_⟩
  refine Below.trans ?_ (hb2.mono (by simp; omega))
  repeat (first | exact b1 | (refine Below.alloc ?_ (by first | omega | (simp; omega)) _) | (refine below_drewN ?_ _))
end Go.Proofs.Ytfghfmlhoelbkaa
