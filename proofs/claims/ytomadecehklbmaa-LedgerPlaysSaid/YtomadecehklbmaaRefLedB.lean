/-
  What the document's ledger tells, each by a contract.
-/
import Derived.Test.YtomadecehklbmaaRefLed
import Derived.BigRegion
import Derived.RegionTactic
namespace Go.Proofs.Ytomadecehklbmaa
open Go.RowKit
set_option linter.unusedSimpArgs false
set_option linter.unusedVariables false

theorem RAtB.alloc {w : World} {g b n : Nat} {A : Nat → Acc} (h : RAtB w g b n A) (o : Obj) : RAtB (w.alloc o) g b n A := by
  obtain ⟨cap, r, hc, N, f, rr, hN⟩ := h
  exact ⟨cap, r.alloc o, hc, N, f, rr.alloc o, hN⟩

theorem raccount_any (w : World) (g n : Nat) (d : Int) (A : Nat → Acc) (h : RAt w g n A) (hn : n ≤ 64) :
    Calls Try.prog 11 #[.pointer (some ⟨g, 0, none⟩), .int .i64 d] w fun e w' => e = .returned (accV (tell A n d)) ∧ Below w.heap.size w w' := by
  obtain ⟨b, cap, hr, hc, hrow⟩ := h
  have hc0 := hr.cell (i := 0) (by omega)
  have hgl := hr.lt
  have hbl := hrow.lt
  have hat : RAtB w g b n A := ⟨cap, hr, hc, hrow⟩
  have hat' := hat.alloc (.cells #[.int .i64 0, .int .i64 0, .int .i64 0, .int .i64 0] 32)
  by_cases hd : 0 ≤ d ∧ d < n
  · obtain ⟨k, rfl⟩ : ∃ k : Nat, d = (k : Int) := ⟨d.toNat, by omega⟩
    have hk : k < n := by omega
    clear hd
    have hd1 : decide (0 ≤ (k : Int)) = true := by simp
    have hd2 : decide ((k : Int) < (n : Int)) = true := by simp; omega
    have HE : Hid (tell A n (k : Int) = A k) := by unfold tell; rw [if_pos (by omega), Int.toNat_natCast]; exact Lib.hid rfl
    have q0 : w.cell? ⟨b, k * 4, none⟩ = some (.int .i64 (A k).own) := hrow.cell hk (show 0 < 4 by omega)
    have q1 : w.cell? ⟨b, k * 4 + 1, none⟩ = some (.int .i64 (A k).got) := hrow.cell hk (show 1 < 4 by omega)
    have q2 : w.cell? ⟨b, k * 4 + 2, none⟩ = some (.int .i64 (A k).idle) := hrow.cell hk (show 2 < 4 by omega)
    have q3 : w.cell? ⟨b, k * 4 + 3, none⟩ = some (.int .i64 (A k).freed) := hrow.cell hk (show 3 < 4 by omega)
    go_enter Try.func11, Try.ntmps11
    go_wp2_with (first | (go_at_call 17; refine (is_any _ g n _ _ _ (by assumption) hn).mono ?_; rintro e w' ⟨rfl, rfl⟩))
    exact bodyPost_ret (v := accV (A k)) (by simp [results, Try.results11, go_sem]) rfl ⟨by rw [HE.out], (Below.refl _ _).alloc (Nat.le_refl _) _⟩
  · have hd3 : (decide (0 ≤ d) && decide (d < n)) = false := by simp; omega
    have HE : Hid (tell A n d = Acc.zero) := by unfold tell; rw [if_neg hd]; exact Lib.hid rfl
    clear hd
    go_enter Try.func11, Try.ntmps11
    go_wp2_with (first | (go_at_call 17; refine (is_any _ g n _ _ _ (by assumption) hn).mono ?_; rintro e w' ⟨rfl, rfl⟩))
    exact bodyPost_ret (v := accV Acc.zero) (by simp [results, Try.results11, go_sem, Acc.zero]) rfl ⟨by rw [HE.out], (Below.refl _ _).alloc (Nat.le_refl _) _⟩

theorem make_accs (c : Int) (h0 : 0 ≤ c) (h1 : c ≤ 1000) (w : World) :
    (Instr.makeSlice 43 (.int .i64 c) (.int .i64 c)).run Try.prog w = .ok (.slice (some ⟨w.heap.size, 0, none⟩) c.toNat c.toNat) (w.alloc (.cells (madeCells #[.int .i64 0, .int .i64 0, .int .i64 0, .int .i64 0] (c.toNat * 4)) 32)) := by
  obtain ⟨i0, hi, hz0, hz1, hz2⟩ := info_parts acc_info
  have := run_make (P := Try.prog) w 43 32 i0 _ Try.underlying43 hi hz0 .i64 .i64 c c h0 (by omega) (by rw [hz2]; omega) (by omega)
  rw [this, hz1]
  rfl

theorem rat_new (w : World) (n : Nat) : RAt ((w.alloc (.cells (madeCells #[.int .i64 0, .int .i64 0, .int .i64 0, .int .i64 0] (n * 4)) 32)).alloc (.cells #[.slice (some ⟨w.heap.size, 0, none⟩) n n] 45)) (w.heap.size + 1) n (fun _ => Acc.zero) := by
  refine ⟨w.heap.size, n, ?_, Nat.le_refl _, n * 4, accCell (fun _ => Acc.zero), ?_, Nat.le_refl _, fun _ _ => rfl⟩
  · have := World.rowIs_alloc (w.alloc (.cells (madeCells #[.int .i64 0, .int .i64 0, .int .i64 0, .int .i64 0] (n * 4)) 32)) #[.slice (some ⟨w.heap.size, 0, none⟩) n n] 45 (fun _ => .slice (some ⟨w.heap.size, 0, none⟩) n n) (fun i hi => by
      have : i = 0 := by simpa using hi
      subst this; rfl)
    simpa using this
  · have := World.rowIs_alloc w (madeCells #[.int .i64 0, .int .i64 0, .int .i64 0, .int .i64 0] (n * 4)) 32 (accCell fun _ => Acc.zero) (fun i hi => by
      rw [size_madeCells] at hi
      unfold madeCells accCell
      have h4 := four (j := i % 4) (by omega)
      rcases h4 with h | h | h | h <;> simp [hi, h, Acc.zero])
    rw [size_madeCells] at this
    exact this.alloc _

def NewRef (w : World) (d : Int) (w' : World) : Prop := ∃ n : Nat, (n : Int) = min (max d 1) 6 ∧ RAt w' (w.heap.size + 1) n (fun _ => Acc.zero) ∧ Below w.heap.size w w'

theorem newRef (w : World) (d c : Int) (hc : c = min (max d 1) 6) : NewRef w d ((w.alloc (.cells (madeCells #[.int .i64 0, .int .i64 0, .int .i64 0, .int .i64 0] (c.toNat * 4)) 32)).alloc (.cells #[.slice (some ⟨w.heap.size, 0, none⟩) c.toNat c.toNat] 45)) :=
  ⟨c.toNat, by omega, rat_new w c.toNat, ((Below.refl _ _).alloc (Nat.le_refl _) _).alloc (by simp) _⟩

theorem rnew_any (w : World) (d : Int) : Calls Try.prog 8 #[.int .i64 d] w fun e w' => e = .returned (.pointer (some ⟨w.heap.size + 1, 0, none⟩)) ∧ NewRef w d w' := by
  obtain ⟨c, hc⟩ : ∃ c : Int, c = min (max d 1) 6 := ⟨_, rfl⟩
  have hmk := make_accs c (by omega) (by omega)
  have key := newRef w d c hc
  by_cases h1 : d ≤ 1
  · obtain rfl : c = 1 := by omega
    clear hc
    go_enter Try.func8, Try.ntmps8
    go_wp2
    go_ret
    exact ⟨rfl, key⟩
  · by_cases h2 : 6 < d
    · obtain rfl : c = 6 := by omega
      clear hc
      go_enter Try.func8, Try.ntmps8
      go_wp2
      go_ret
      exact ⟨rfl, key⟩
    · obtain rfl : c = d := by omega
      clear hc
      go_enter Try.func8, Try.ntmps8
      go_wp2
      go_ret
      exact ⟨rfl, key⟩

end Go.Proofs.Ytomadecehklbmaa
