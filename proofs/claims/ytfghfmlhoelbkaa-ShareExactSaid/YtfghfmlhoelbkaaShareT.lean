/-
  ShareTells: the walk.
-/
import Derived.Test.YtfghfmlhoelbkaaShareK
namespace Go.Proofs.Ytfghfmlhoelbkaa
open Go.RowKit Go.Proofs.YtfghfmlhoelbkaaW.PrintWords
set_option linter.unusedSimpArgs false
set_option linter.unusedVariables false

theorem cnt_len (f : Int) (l : List Int) : (cnt f l).length ≤ 6 := by
  unfold cnt
  split
  · simp
  · rename_i h
    have := (shSum_pos h).1.2.2.2.1
    rw [tab_len]; exact this

theorem share_tells_walk (f : Int) (P1 : Option Addr) (c1 : Nat) (P2 : Option Addr) (c2 : Nat) (l m : List Int) (w : World) (h1 : Kd.C (Kd.int .i64) w P1 l.length l) (hc1 : l.length ≤ c1) (h2 : Kd.C (Kd.int .i64) w P2 m.length m) (hc2 : m.length ≤ c2) :
    Calls Try.prog 3 #[.int .i64 f, .slice P1 l.length c1, .slice P2 m.length c2] w fun e w' => e = .returned (.bool true) ∧ Below w.heap.size w w' := by
  have n1 := h1.2.1
  have n2 := h2.2.1
  by_cases a1 : 20 < l.length
  · have a1' : (20 : Int) < (l.length : Int) := by omega
    go_enter Try.func3, Try.ntmps3
    go_wp2_with (go_at_call 8; refine (known_any _).mono ?_; rintro e w1 ⟨rfl, hb1⟩)
    go_ret
    exact ⟨rfl, hb1⟩
  have a1' : (l.length : Int) ≤ 20 := by omega
  by_cases a2 : 20 < m.length
  · have a2' : (20 : Int) < (m.length : Int) := by omega
    go_enter Try.func3, Try.ntmps3
    go_wp2_with (go_at_call 8; refine (known_any _).mono ?_; rintro e w1 ⟨rfl, hb1⟩)
    go_ret
    exact ⟨rfl, hb1⟩
  have a2' : (m.length : Int) ≤ 20 := by omega
  have HL := Lib.hid (cnt_len f l)
  go_enter Try.func3, Try.ntmps3
  go_wp2_with (go_at_call 8; refine (known_any _).mono ?_; rintro e w1 ⟨rfl, hb1⟩)
  have e1 := Kd.C_below h1 hb1
  have e2 := Kd.C_below h2 hb1
  refine (counts_any w1 f P1 l c1 e1 hc1).mono ?_
  rintro e w2 ⟨v, rfl, hR, hb2⟩
  obtain ⟨A, c, rfl, hcl, hC⟩ := Kd.R_reads hR
  go_wp2_with fail
  have e3 := Kd.C_below e1 hb2
  have e4 := Kd.C_below e2 hb2
  refine (refcounts_any w2 f P1 l c1 e3 hc1).mono ?_
  rintro e w3 ⟨v, rfl, hR2, hb3⟩
  obtain ⟨A2, c3, rfl, hcl2, hC2⟩ := Kd.R_reads hR2
  go_wp2_with fail
  have e5 := Kd.C_below e3 hb3
  have e6 := Kd.C_below e4 hb3
  refine (same_any w3 A _ c A2 _ c3 (by have := HL.out; omega) (Kd.C_below hC hb3) hcl hC2 hcl2).mono ?_
  rintro e w4 ⟨rfl, nd, rfl⟩
  have hd : decide (cnt f l = cnt f l) = true := decide_eq_true rfl
  rw [hd]
  clear hd
  go_wp2_with fail
  refine (exact_any (w3.drewN nd) f P1 l c1 P2 m c2 (Kd.C_drewN e5 _) hc1 (Kd.C_drewN e6 _) hc2).mono ?_
  rintro e w4 ⟨rfl, nd2, rfl⟩
  go_wp2_with fail
  refine (refexact_any (w3.drewN (nd + nd2)) f P1 l c1 P2 m c2 (Kd.C_drewN e5 _) hc1 (Kd.C_drewN e6 _) hc2).mono ?_
  rintro e w4 ⟨rfl, nd3, rfl⟩
  go_wp2_with fail
  go_ret
  exact ⟨by simp, below_drewN (hb1.trans ((hb2.mono hb1.size).trans (hb3.mono (Nat.le_trans hb1.size hb2.size)))) _⟩
end Go.Proofs.Ytfghfmlhoelbkaa
