/-
  What the methods of package ledger tell of a ledger in memory, each by a contract.
-/
import Derived.Test.YtomadecehklbmaaLedger
namespace Go.Proofs.Ytomadecehklbmaa
open Go.RowKit
set_option linter.unusedSimpArgs false
set_option linter.unusedVariables false
attribute [local go_sem] run_store_complex

abbrev accV (a : Acc) : Value := .agg #[.int .i64 a.own, .int .i64 a.got, .int .i64 a.idle, .int .i64 a.freed]
abbrev sumV (a : Acc) : Value := .agg #[cx a.own a.got, cx a.idle a.freed]
def Acc.zero : Acc := ⟨0, 0, 0, 0⟩
def Acc.small (a : Acc) : Prop := 0 ≤ a.own ∧ a.own ≤ 100000000 ∧ 0 ≤ a.got ∧ a.got ≤ 100000000 ∧ 0 ≤ a.idle ∧ a.idle ≤ 100000000 ∧ 0 ≤ a.freed ∧ a.freed ≤ 100000000

theorem bcell {W w1 : World} (hb : Below W.heap.size W w1) : (∀ b o, b < W.heap.size → w1.cell? ⟨b, o, none⟩ = W.cell? ⟨b, o, none⟩) ∧ (∀ b o, b < W.heap.size → w1.frozen? ⟨b, o, none⟩ = W.frozen? ⟨b, o, none⟩) :=
  ⟨fun b o h => hb.cell (p := ⟨b, o, none⟩) h, fun b o h => hb.frozen (p := ⟨b, o, none⟩) h⟩

theorem bcellB {B : Nat} {W w1 : World} (hb : Below B W w1) : (∀ b o, b < B → w1.cell? ⟨b, o, none⟩ = W.cell? ⟨b, o, none⟩) ∧ (∀ b o, b < B → w1.frozen? ⟨b, o, none⟩ = W.frozen? ⟨b, o, none⟩) :=
  ⟨fun b o h => hb.cell (p := ⟨b, o, none⟩) h, fun b o h => hb.frozen (p := ⟨b, o, none⟩) h⟩

theorem account_any (w : World) (a : Acc) (h : a.small) : Calls Try.prog 18 #[sumV a] w fun e w' => e = .returned (accV a) ∧ Below w.heap.size w w' := by
  obtain ⟨o, g, i, f⟩ := a
  obtain ⟨o0, o1, g0, g1, i0, i1, f0, f1⟩ := h
  dsimp only at o0 o1 g0 g1 i0 i1 f0 f1
  have c1 := fun W => run_convert_float_int (P := Try.prog) W 52 3 .f64 .i64 _ o (by rw [Try.underlying52]; rfl) Try.underlying3 (fl_toInt (by omega))
  have c2 := fun W => run_convert_float_int (P := Try.prog) W 52 3 .f64 .i64 _ g (by rw [Try.underlying52]; rfl) Try.underlying3 (fl_toInt (by omega))
  have c3 := fun W => run_convert_float_int (P := Try.prog) W 52 3 .f64 .i64 _ i (by rw [Try.underlying52]; rfl) Try.underlying3 (fl_toInt (by omega))
  have c4 := fun W => run_convert_float_int (P := Try.prog) W 52 3 .f64 .i64 _ f (by rw [Try.underlying52]; rfl) Try.underlying3 (fl_toInt (by omega))
  unfold sumV
  go_enter Try.func18, Try.ntmps18
  go_wp2
  exact bodyPost_ret (v := accV ⟨o, g, i, f⟩) (by simp [results, Try.results18, go_sem, accV]) rfl ⟨rfl, ((Below.refl _ _).alloc (Nat.le_refl _) _).alloc (by simp) _⟩

/-- What is told of d: of nobody, nothing. -/
def tell (A : Nat → Acc) (n : Nat) (d : Int) : Acc := if 0 ≤ d ∧ d < n then A d.toNat else Acc.zero

/-- All accounts together. -/
def sumA (A : Nat → Acc) : Nat → Acc
  | 0 => Acc.zero
  | n + 1 => (sumA A n).plus (A n).own (A n).got (A n).idle (A n).freed

theorem small_of {A : Nat → Acc} {m : Int} (h : Within A m) (hM : m ≤ 100000000) (i : Nat) : (A i).small := by
  have := h i
  unfold Acc.small
  omega

theorem below_drewN {B : Nat} {a w : World} (h : Below B a w) (n : Nat) : Below B a (w.drewN n) := ⟨h.os, h.tape, h.output, h.size, h.block⟩

theorem Account_any (w : World) (g b n : Nat) (d : Int) (A : Nat → Acc) (m : Int) (h : LedAt w g b n A) (hn : n ≤ 1000) (hm : Within A m) (hM : m ≤ 1000000) :
    Calls Try.prog 12 #[.pointer (some ⟨g, 0, none⟩), .int .i64 d] w fun e w' => e = .returned (accV (tell A n d)) ∧ Below w.heap.size w w' := by
  have hc0 : w.cell? ⟨g, 0, none⟩ = some (.slice (some ⟨b, 0, none⟩) n n) := h.1.cell (by omega)
  have hgl := h.1.lt
  have hbl := h.2.lt
  by_cases hd : 0 ≤ d ∧ d < n
  · obtain ⟨k, rfl⟩ : ∃ k : Nat, d = (k : Int) := ⟨d.toNat, by omega⟩
    have hk : k < n := by omega
    clear hd
    have HE : Hid (tell A n (k : Int) = A k) := by unfold tell; rw [if_pos (by omega), Int.toNat_natCast]; exact Lib.hid rfl
    have hc1 := h.2.cell (i := k * 2) (by omega)
    have hc2 := h.2.cell (i := k * 2 + 1) (by omega)
    rw [ledCell_even] at hc1
    rw [ledCell_odd] at hc2
    have hs := small_of hm (by omega) k
    go_enter Try.func12, Try.ntmps12
    go_wp2_with (go_at_call 18; refine (account_any _ (A k) hs).mono ?_; rintro e w1 ⟨rfl, b1⟩; obtain ⟨hc, hf⟩ := bcell b1; have hz : w.heap.size + 1 ≤ w1.heap.size := by have := b1.size; simpa using this)
    refine bodyPost_ret (v := accV (A k)) (by simp [results, Try.results12, go_sem, hc, hf]) rfl ⟨by rw [HE.out], ?_⟩
    exact (((((Below.refl _ _).alloc (Nat.le_refl _) _).trans (b1.mono (by simp))).setCell (by simp) _).setCell (by simp) _ |>.setCell (by simp) _).setCell (by simp) _
  · have HE : Hid (tell A n d = Acc.zero) := by unfold tell; rw [if_neg hd]; exact Lib.hid rfl
    by_cases h0 : 0 ≤ d
    · have h1 : ¬ d < n := by omega
      clear hd
      go_enter Try.func12, Try.ntmps12
      go_wp2
      exact bodyPost_ret (v := accV Acc.zero) (by simp [results, Try.results12, go_sem, Acc.zero]) rfl ⟨by rw [HE.out], (Below.refl _ _).alloc (Nat.le_refl _) _⟩
    · clear hd
      go_enter Try.func12, Try.ntmps12
      go_wp2
      exact bodyPost_ret (v := accV Acc.zero) (by simp [results, Try.results12, go_sem, Acc.zero]) rfl ⟨by rw [HE.out], (Below.refl _ _).alloc (Nat.le_refl _) _⟩

theorem small_tell {A : Nat → Acc} {m : Int} (h : Within A m) (hM : m ≤ 100000000) (n : Nat) (d : Int) : (tell A n d).small := by
  unfold tell
  split
  · exact small_of h hM _
  · unfold Acc.small Acc.zero; dsimp only; omega

theorem Clock_any (w : World) (g b n : Nat) (d : Int) (A : Nat → Acc) (m : Int) (h : LedAt w g b n A) (hn : n ≤ 1000) (hm : Within A m) (hM : m ≤ 1000000) :
    Calls Try.prog 13 #[.pointer (some ⟨g, 0, none⟩), .int .i64 d] w fun e w' => e = .returned (.int .i64 ((tell A n d).own + (tell A n d).got)) ∧ Below w.heap.size w w' := by
  have ⟨o0, o1, g0, g1, _⟩ := small_tell hm (by omega) n d
  go_enter Try.func13, Try.ntmps13
  go_wp2_with (go_at_call 12; refine (Account_any _ g b n d A m h hn hm hM).mono ?_; rintro e w1 ⟨rfl, b1⟩)
  go_ret
  exact ⟨rfl, b1.alloc b1.size _⟩

theorem ints_info : (Try.prog.info? 51).map (fun i => (i.zero, i.size, i.bytes)) = some (some (.agg #[.complex .f64 0 0, .complex .f64 0 0]), 2, 32) := by kernel_rfl

theorem make_sums (c : Int) (h0 : 0 ≤ c) (h1 : c ≤ 1000) (w : World) :
    (Instr.makeSlice 40 (.int .i64 c) (.int .i64 c)).run Try.prog w = .ok (.slice (some ⟨w.heap.size, 0, none⟩) c.toNat c.toNat) (w.alloc (.cells (madeCells #[.complex .f64 0 0, .complex .f64 0 0] (c.toNat * 2)) 51)) := by
  obtain ⟨i0, hi, hz0, hz1, hz2⟩ := info_parts ints_info
  have := run_make (P := Try.prog) w 40 51 i0 _ Try.underlying40 hi hz0 .i64 .i64 c c h0 (by omega) (by rw [hz2]; omega) (by omega)
  rw [this, hz1]
  rfl

theorem led_new (w : World) (n : Nat) : LedAt ((w.alloc (.cells (madeCells #[.complex .f64 0 0, .complex .f64 0 0] (n * 2)) 51)).alloc (.cells #[.slice (some ⟨w.heap.size, 0, none⟩) n n] 42)) (w.heap.size + 1) w.heap.size n (fun _ => Acc.zero) := by
  constructor
  · have := World.rowIs_alloc (w.alloc (.cells (madeCells #[.complex .f64 0 0, .complex .f64 0 0] (n * 2)) 51)) #[.slice (some ⟨w.heap.size, 0, none⟩) n n] 42 (fun _ => .slice (some ⟨w.heap.size, 0, none⟩) n n) (fun i hi => by
      have : i = 0 := by simpa using hi
      subst this; rfl)
    simpa using this
  · have := World.rowIs_alloc w (madeCells #[.complex .f64 0 0, .complex .f64 0 0] (n * 2)) 51 (ledCell fun _ => Acc.zero) (fun i hi => by
      rw [size_madeCells] at hi
      unfold madeCells ledCell
      have : i % 2 = 0 ∨ i % 2 = 1 := by omega
      have hz : floatOfInt .f64 0 = 0 := fl_zero
      rcases this with h | h <;> simp [hi, h, Acc.zero, cx, hz])
    rw [size_madeCells] at this
    exact this.alloc _

def NewLed (w : World) (d : Int) (w' : World) : Prop := ∃ n : Nat, (n : Int) = min (max d 1) 6 ∧ LedAt w' (w.heap.size + 1) w.heap.size n (fun _ => Acc.zero) ∧ Below w.heap.size w w'

theorem newLed (w : World) (d c : Int) (hc : c = min (max d 1) 6) : NewLed w d ((w.alloc (.cells (madeCells #[.complex .f64 0 0, .complex .f64 0 0] (c.toNat * 2)) 51)).alloc (.cells #[.slice (some ⟨w.heap.size, 0, none⟩) c.toNat c.toNat] 42)) :=
  ⟨c.toNat, by omega, led_new w c.toNat, ((Below.refl _ _).alloc (Nat.le_refl _) _).alloc (by simp) _⟩

theorem New_any (w : World) (d : Int) : Calls Try.prog 7 #[.int .i64 d] w fun e w' => e = .returned (.pointer (some ⟨w.heap.size + 1, 0, none⟩)) ∧ NewLed w d w' := by
  obtain ⟨c, hc⟩ : ∃ c : Int, c = min (max d 1) 6 := ⟨_, rfl⟩
  have hmk := make_sums c (by omega) (by omega)
  have key := newLed w d c hc
  by_cases h1 : d < 1
  · obtain rfl : c = 1 := by omega
    clear hc
    go_enter Try.func7, Try.ntmps7
    go_wp2
    go_ret
    exact ⟨rfl, key⟩
  · by_cases h2 : 6 < d
    · obtain rfl : c = 6 := by omega
      clear hc
      go_enter Try.func7, Try.ntmps7
      go_wp2
      go_ret
      exact ⟨rfl, key⟩
    · obtain rfl : c = d := by omega
      clear hc
      go_enter Try.func7, Try.ntmps7
      go_wp2
      go_ret
      exact ⟨rfl, key⟩

theorem sumA_bounds {A : Nat → Acc} {m : Int} (h : Within A m) (h0 : 0 ≤ m) (hM : m ≤ 1000000) : ∀ k : Nat, k ≤ 64 → 0 ≤ (sumA A k).own ∧ (sumA A k).own ≤ k * 1000000 ∧ 0 ≤ (sumA A k).got ∧ (sumA A k).got ≤ k * 1000000 ∧ 0 ≤ (sumA A k).idle ∧ (sumA A k).idle ≤ k * 1000000 ∧ 0 ≤ (sumA A k).freed ∧ (sumA A k).freed ≤ k * 1000000
  | 0, _ => by simp [sumA, Acc.zero]
  | k + 1, hk => by
    have := sumA_bounds h h0 hM k (by omega)
    have hi := h k
    simp only [sumA, Acc.plus]
    omega

def sumCell (a : Acc) (j : Nat) : Value := if j = 0 then cx a.own a.got else cx a.idle a.freed

theorem Sum_any (w : World) (g b n : Nat) (A : Nat → Acc) (m : Int) (h : LedAt w g b n A) (hn : n ≤ 64) (hm : Within A m) (h0 : 0 ≤ m) (hM : m ≤ 1000000) :
    Calls Try.prog 14 #[.pointer (some ⟨g, 0, none⟩)] w fun e w' => e = .returned (accV (sumA A n)) ∧ Below w.heap.size w w' := by
  have hc0 : w.cell? ⟨g, 0, none⟩ = some (.slice (some ⟨b, 0, none⟩) n n) := h.1.cell (by omega)
  have hgl := h.1.lt
  have hbl := h.2.lt
  have HB := Lib.hid (sumA_bounds hm h0 hM)
  go_enter Try.func14, Try.ntmps14
  go_wp2
  go_loopw [11] (fun i wr => ∃ k : Nat, k ≤ n ∧ i = .int .i64 k ∧ wr.rowIs (w.heap.size + 1) 51 2 (sumCell (sumA A k)) ∧ Below (w.heap.size + 1) (w.alloc (.cells #[.int .i64 0, .int .i64 0, .int .i64 0, .int .i64 0] 32)) wr) (fun i _ => n - (intOf i).toNat)
  case atStart =>
    refine ⟨0, by omega, rfl, ?_, (Below.refl _ _).alloc (by simp) _⟩
    have := World.rowIs_alloc (w.alloc (.cells #[.int .i64 0, .int .i64 0, .int .i64 0, .int .i64 0] 32)) #[.complex .f64 0 0, .complex .f64 0 0] 51 (sumCell (sumA A 0)) (fun i hi => by
      have hz : floatOfInt .f64 0 = 0 := fl_zero
      have : i = 0 ∨ i = 1 := by simp at hi; omega
      rcases this with rfl | rfl <;> simp [sumCell, sumA, Acc.zero, cx, hz])
    simpa using this
  case round =>
    obtain ⟨k, hk, rfl, hrow, hbel⟩ := hrel
    have hz1 : w.heap.size + 1 < wr.heap.size := hrow.lt
    have hs1 : wr.cell? ⟨w.heap.size + 1, 0, none⟩ = some (cx (sumA A k).own (sumA A k).got) := hrow.cell (i := 0) (by omega)
    have hs2 : wr.cell? ⟨w.heap.size + 1, 1, none⟩ = some (cx (sumA A k).idle (sumA A k).freed) := hrow.cell (i := 1) (by omega)
    have hs3 := hrow.frozen 0
    have hs4 := hrow.frozen 1
    by_cases hlt : k < n
    · have e1 : wr.cell? ⟨b, k * 2, none⟩ = some (cx (A k).own (A k).got) := by
        have := hbel.cell (p := ⟨b, k * 2, none⟩) (by simp; omega)
        rw [this, World.cell?_alloc_past (hn := hbl), h.2.cell (i := k * 2) (by omega), ledCell_even]
      have e2 : wr.cell? ⟨b, k * 2 + 1, none⟩ = some (cx (A k).idle (A k).freed) := by
        have := hbel.cell (p := ⟨b, k * 2 + 1, none⟩) (by simp; omega)
        rw [this, World.cell?_alloc_past (hn := hbl), h.2.cell (i := k * 2 + 1) (by omega), ledCell_odd]
      have hbw : b < wr.heap.size := by omega
      have hb1 := HB.out k (by omega)
      have hb2 := hm k
      have s1 := fun W => cx_sum (P := Try.prog) 47 (sumA A k).own (sumA A k).got (A k).own (A k).got (by omega) (by omega) (by omega) (by omega) (by omega) (by omega) W
      have s2 := fun W => cx_sum (P := Try.prog) 47 (sumA A k).idle (sumA A k).freed (A k).idle (A k).freed (by omega) (by omega) (by omega) (by omega) (by omega) (by omega) W
      clear hb1 hb2
      go_wp2
      go_roundw
      case rel =>
        refine ⟨k + 1, by omega, by go_num, ((((hrow.set 0 _).set 1 _).alloc _).congr fun j hj => ?_), ((hbel.setCell (by simp) _).setCell (by simp) _).alloc (by simp; omega) _⟩
        have : j = 0 ∨ j = 1 := by omega
        rcases this with rfl | rfl <;> simp [sumCell, sumA, Acc.plus]
      case measure => simp [intOf]; omega
    · obtain rfl : k = n := by omega
      have hb1 := HB.out k (by omega)
      have hsm : (sumA A k).small := by unfold Acc.small; omega
      clear hb1
      obtain ⟨wc, wf⟩ := bcellB hbel
      have hz0 : w.heap.size < wr.heap.size := by omega
      go_wp2_with (go_at_call 18; refine (account_any _ (sumA A k) hsm).mono ?_; rintro e w1 ⟨rfl, b1⟩; obtain ⟨hc, hf⟩ := bcell b1; have hz : w.heap.size + 1 ≤ w1.heap.size := by have := b1.size; omega)
      refine bodyPost_ret (v := accV (sumA A k)) (by simp [results, Try.results14, go_sem, hc, hf, wc, wf, hz0]) rfl ⟨rfl, ?_⟩
      have b0 := ((Below.refl w.heap.size w).alloc (Nat.le_refl _) (.cells #[.int .i64 0, .int .i64 0, .int .i64 0, .int .i64 0] 32)).trans ((hbel.mono (by omega)).trans (b1.mono (by omega)))
      exact (((b0.setCell (by simp) _).setCell (by simp) _).setCell (by simp) _).setCell (by simp) _

end Go.Proofs.Ytomadecehklbmaa
