/-
  What share.parts, greatest and Counts answer, each by a contract.
-/
import Derived.Test.YtfghfmlhoelbkaaFloat
import Derived.Test.YtfghfmlhoelbkaaRExact
import Derived.Test.YtfghfmlhoelbkaaRows
import Derived.WalkKit
import Derived.Laws.Cover2
import Derived.Laws.Cover3
import Derived.Laws.FloatArith
import Derived.Laws.ComplexArith
import Derived.WalkLawsBesides
import Derived.Lib.Hide
import Derived.Deep.OwnRows
import Derived.Deep.Draws
import Derived.Deep.QuietTactic
import Derived.BigQuiet
import Derived.StillTailTactics
import Derived.Outline
import Derived.Deep.RegionHeld3
import Derived.Deep.AppendLies
namespace Go.Proofs.Ytfghfmlhoelbkaa
open Go.RowKit Go.Proofs.YtfghfmlhoelbkaaW.PrintWords
set_option linter.unusedSimpArgs false
set_option linter.unusedVariables false

theorem ret_int {k : IntKind} {a b : Int} (h : a = b) : Ending.returned (.int k a) = .returned (.int k b) := by rw [h]
theorem ret_bool {a b : Bool} (h : a = b) : Ending.returned (.bool a) = .returned (.bool b) := by rw [h]
theorem i64_wrap_id {x : Int} (h0 : -9223372036854775808 ≤ x) (h1 : x ≤ 9223372036854775807) : IntKind.i64.wrap x = x := by rw [IntKind.wrap_i64]; omega
theorem run_store_complex (P : Program) (w : World) (a : Addr) (m : Mode) (k : FloatKind) (x y : Nat) : (store a (.complex k x y) m).run P w = stored P w a (.complex k x y) m := run_store P w a _ m rfl
attribute [local go_sem] run_store_complex

abbrev cx (a b : Int) : Value := .complex .f64 (floatOfInt .f64 a) (floatOfInt .f64 b)

def X (l : List Int) (j : Nat) : Int := rd l (j : Int)
def totN (X : Nat → Int) : Nat → Int
  | 0 => 0
  | k + 1 => totN X k + X k
def Qs (f all : Int) (Y : Nat → Int) (j : Nat) : Int := f * Y j / all
def Rs (f all : Int) (Y : Nat → Int) (j : Nat) : Int := f * Y j % all
def cxs (Q R : Nat → Int) (n : Nat) : List Value := (List.range n).map (fun j => cx (Q j) (R j))
theorem cxs_succ (Q R : Nat → Int) (n : Nat) : cxs Q R (n + 1) = cxs Q R n ++ [cx (Q n) (R n)] := by unfold cxs; rw [List.range_succ, List.map_append]; rfl
theorem cx_info : (Try.prog.info? 37).map (fun i => (i.zero, i.size, i.bytes)) = some (some (.complex .f64 0 0), 1, 16) := by kernel_rfl

set_option maxHeartbeats 1600000 in
theorem parts_any (w : World) (f all : Int) (P : Option Addr) (l : List Int) (c : Nat) (hl : Kd.C (Kd.int .i64) w P l.length l) (hb : ∀ j, j < l.length → 0 ≤ f * X l j ∧ f * X l j ≤ 64000) (h1 : 1 ≤ all) (h6 : l.length ≤ 6) :
    Calls Try.prog 15 #[.int .i64 f, .slice P l.length c, .int .i64 all] w fun e w' => ∃ v, e = .returned v ∧ w'.ownsRow w.heap.size 37 1 v l.length (cxs (Qs f all (X l)) (Rs f all (X l)) l.length) ∧ Below w.heap.size w w' := by
  obtain ⟨i0, hi, hz0, hz1, hz2⟩ := info_parts cx_info
  have HH := Lib.hid hl
  clear hl
  obtain ⟨n, hn⟩ : ∃ n, n = l.length := ⟨_, rfl⟩
  have HN := Lib.hid hn
  rw [← hn] at h6 ⊢
  clear hn
  go_enter Try.func15, Try.ntmps15
  go_wp2
  go_loopw [7, 12] (fun v i wr => ∃ k : Nat, k ≤ n ∧ i = .int .i64 k ∧ wr.ownsRow w.heap.size 37 1 v k (cxs (Qs f all (X l)) (Rs f all (X l)) k) ∧ Below w.heap.size w wr) (fun _ i _ => n - (intOf i).toNat)
  case atStart => exact ⟨0, Nat.zero_le _, rfl, World.ownsRow_nil _ _ _ _, Below.refl _ _⟩
  case round =>
    obtain ⟨k, hk, rfl, hown, hbel⟩ := hrel
    by_cases hlt : k < n
    · obtain ⟨ad, had, hc⟩ := Kd.at_int (Kd.C_below HH.out hbel) (k : Int) (by omega) (by rw [← HN.out]; omega)
      rw [Int.toNat_natCast] at hc
      subst had
      have ⟨b0, b1⟩ := hb k (by rw [← HN.out]; exact hlt)
      have hX : rd l (k : Int) = X l k := rfl
      rw [hX] at hc
      clear hX
      have ha : ¬ all = 0 := by omega
      go_wp2_with fail
      have hsz := hbel.size
      have hq := Int.ediv_le_self all b0
      have hq0 := Int.ediv_nonneg b0 (show 0 ≤ all by omega)
      have E1 : Hid (IntKind.i64.wrap (f * X l k) = f * X l k) := Lib.hid (by rw [i64_wrap_id (by omega) (by omega)])
      have E2 : Hid (IntKind.i64.wrap ((f * X l k).tdiv all) = Qs f all (X l) k) := Lib.hid (by rw [Int.tdiv_eq_ediv_of_nonneg b0, i64_wrap_id (by omega) (by omega)]; rfl)
      have E3 : Hid ((f * X l k).tmod all = Rs f all (X l) k) := Lib.hid (by rw [Int.tmod_eq_emod_of_nonneg b0]; rfl)
      clear hq hq0
      have hm1 : k + 1 ≤ maxLen := by unfold maxLen; omega
      have hm2 : (k + 1) * 16 ≤ 140737488355328 := by omega
      go_region_held3 (fun w' => True) (trivial)
        ((refine step_append_lies _ (by rfl) _ _ _ (by rfl) w.heap.size 37 i0 _ 1 16 Try.underlying35 hi hz0 hz1 hz2 rfl (by omega) u7 k (cxs (Qs f all (X l)) (Rs f all (X l)) k) (by rfl) ((hown.alloc _).drew)
            ⟨wr.heap.size, 0, none⟩ 1 1 [cx (Qs f all (X l) k) (Rs f all (X l) k)] (by rfl) (by rfl) (World.news_of_block (cs := #[cx (Qs f all (X l) k) (Rs f all (X l) k)]) (t := 37) (fr := (0, 0)) (by rw [E1.out, E2.out, E3.out]; exact heap_alloc_new wr _)) (by simp [Value.oneCell'])
            (by omega) hm1 hm2 (by simp; omega) (wr.heap.size + 1) (by simp) ?_; intro gg cap w1 hown1 hgrow hat hlt2))
      go_wp2_with fail
      go_roundw
      case rel => exact ⟨k + 1, by omega, by go_num, by rw [cxs_succ]; exact hown1, ((hbel.alloc (by omega) _).drew).grown hgrow (by simp; omega) (fun b hbq => (hown.lt b hbq).1)⟩
      case measure => simp [intOf]; omega
    · obtain rfl : k = n := by omega
      go_wp2
      go_ret
      exact ⟨_, rfl, hown, hbel⟩

/-- A row of n complex cells from the head of block b on; what stands behind them is open. -/
def CRow (w : World) (b n : Nat) (Q R : Nat → Int) : Prop := ∃ (N : Nat) (f : Nat → Value), w.rowIs b 37 N f ∧ n ≤ N ∧ ∀ j, j < n → f j = cx (Q j) (R j)
theorem CRow.cell {w : World} {b n : Nat} {Q R : Nat → Int} (h : CRow w b n Q R) {j : Nat} (hj : j < n) : w.cell? ⟨b, j, none⟩ = some (cx (Q j) (R j)) := by
  obtain ⟨N, f, hr, hN, hf⟩ := h
  rw [hr.cell (i := j) (by omega), hf j hj]
theorem CRow.frozen {w : World} {b n : Nat} {Q R : Nat → Int} (h : CRow w b n Q R) (i : Nat) : w.frozen? ⟨b, i, none⟩ = false := by
  obtain ⟨N, f, hr, _⟩ := h
  exact hr.frozen i
theorem CRow.lt {w : World} {b n : Nat} {Q R : Nat → Int} (h : CRow w b n Q R) : b < w.heap.size := by
  obtain ⟨N, f, hr, _⟩ := h
  exact hr.lt
theorem CRow.of_block {w w' : World} {b n : Nat} {Q R : Nat → Int} (h : CRow w b n Q R) (e : w'.heap[b]? = w.heap[b]?) : CRow w' b n Q R := by
  obtain ⟨N, f, hr, hN⟩ := h
  exact ⟨N, f, hr.of_block e, hN⟩
def upd (Q : Nat → Int) (k : Nat) (v : Int) (j : Nat) : Int := if j = k then v else Q j
theorem CRow.set {w : World} {b n : Nat} {Q R : Nat → Int} (h : CRow w b n Q R) (k : Nat) (q r : Int) : CRow (w.setCell ⟨b, k, none⟩ (cx q r)) b n (upd Q k q) (upd R k r) := by
  obtain ⟨N, f, hr, hN, hf⟩ := h
  refine ⟨N, _, hr.set k _, hN, fun j hj => ?_⟩
  unfold upd
  by_cases e : j = k
  · simp [e]
  · simp [e, hf j hj]

theorem cxs_get {Q R : Nat → Int} {n j : Nat} (h : j < n) : (cxs Q R n)[j]? = some (cx (Q j) (R j)) := by
  unfold cxs; simp [h]
/-- The row that parts has made. -/
theorem crow_own {w : World} {B n : Nat} {v : Value} {Q R : Nat → Int} (h : w.ownsRow B 37 1 v n (cxs Q R n)) (h0 : 0 < n) : ∃ b cap, v = .slice (some ⟨b, 0, none⟩) n cap ∧ B ≤ b ∧ n ≤ cap ∧ CRow w b n Q R := by
  rcases h.2 with ⟨_, hn⟩ | ⟨b, cap, cur, rfl, hb, hg, hnc, _, hs, htake⟩
  · omega
  · refine ⟨b, cap, rfl, hb, hnc, cap, fun j => cur[j]?.getD (.int .i64 0), ⟨cur, hg, by omega, fun i hi => ?_⟩, hnc, fun j hj => ?_⟩
    · simp [Array.getElem?_eq_getElem (show i < cur.size by omega)]
    · have e := cxs_get (Q := Q) (R := R) hj
      rw [← htake, List.getElem?_take, if_pos (by omega), Array.getElem?_toList] at e
      simp [e]

/-- Whose rest is greatest, of the first n; of those alike the first. -/
def gr (R : Nat → Int) : Nat → Nat
  | 0 => 0
  | k + 1 => if R (gr R k) < R k then k else gr R k
theorem gr_lt (R : Nat → Int) : ∀ n, 0 < n → gr R n < n
  | 0, h => by omega
  | n + 1, _ => by
    simp only [gr]
    split
    · omega
    · rcases Nat.eq_zero_or_pos n with rfl | h
      · simp [gr]
      · have := gr_lt R n h; omega
theorem gr_le (R : Nat → Int) (n m : Nat) (h : n ≤ m) (hm : 0 < m) : gr R n < m := by
  rcases Nat.eq_zero_or_pos n with rfl | h0
  · simpa [gr] using hm
  · have := gr_lt R n h0; omega

def Small (R : Nat → Int) (n : Nat) : Prop := ∀ j, j < n → -1 ≤ R j ∧ R j ≤ 1000000

theorem greatest_any (w : World) (b n c : Nat) (Q R : Nat → Int) (h : CRow w b n Q R) (hs : Small R n) (h0 : 0 < n) (h6 : n ≤ 6) :
    Calls Try.prog 16 #[.slice (some ⟨b, 0, none⟩) n c] w fun e w' => e = .returned (.int .i64 (gr R n)) ∧ w = w' := by
  go_enter Try.func16, Try.ntmps16
  go_wp2
  go_loop [3, 8] (fun v i => ∃ k : Nat, k ≤ n ∧ i = .int .i64 k ∧ v = .int .i64 (gr R k)) (fun _ i => n - (intOf i).toNat)
  case atStart => exact ⟨0, Nat.zero_le _, rfl, rfl⟩
  case round =>
    obtain ⟨k, hk, rfl, rfl⟩ := hrel
    by_cases hlt : k < n
    · have hg := gr_le R k n hk h0
      have hg0 : (0 : Int) ≤ (gr R k : Int) := Int.natCast_nonneg _
      have hg1 : (gr R k : Int) < (n : Int) := by omega
      have c1 := h.cell hlt
      have c2 := h.cell hg
      have ⟨a1, a2⟩ := hs k hlt
      have ⟨a3, a4⟩ := hs _ hg
      have ho := fl_gt (a := R k) (b := R (gr R k)) (by omega) (by omega)
      have HG := Lib.hid (show gr R (k + 1) = if R (gr R k) < R k then k else gr R k from rfl)
      clear hs h
      by_cases hx : R (gr R k) < R k
      · have ho1 : (FloatKind.f64.format.order (floatOfInt .f64 (R k)) (floatOfInt .f64 (R (gr R k))) == some .gt) = true := by rw [ho]; simpa using hx
        clear ho
        go_wp2
        go_round
        case rel => exact ⟨k + 1, by omega, by go_num, by rw [HG.out, if_pos hx]⟩
        case measure => simp [intOf]; omega
      · have ho1 : (FloatKind.f64.format.order (floatOfInt .f64 (R k)) (floatOfInt .f64 (R (gr R k))) == some .gt) = false := by rw [ho]; simpa using hx
        clear ho
        go_wp2
        go_round
        case rel => exact ⟨k + 1, by omega, by go_num, by rw [HG.out, if_neg hx]⟩
        case measure => simp [intOf]; omega
    · obtain rfl : k = n := by omega
      go_wp2
      go_ret
      exact ⟨rfl, rfl⟩
end Go.Proofs.Ytfghfmlhoelbkaa
