/-
  What the methods of package ledger do to a ledger in memory, each by a contract.
-/
import Derived.Test.YtomadecehklbmaaFloat
import Derived.Test.YtomadecehklbmaaRows
import Derived.WalkKit
import Derived.Laws.Cover2
import Derived.Laws.Cover3
import Derived.Laws.FloatArith
import Derived.Laws.ComplexArith
import Derived.WalkLawsBesides
import Derived.Lib.Hide
import Derived.Deep.OwnRows
import Derived.Deep.Draws
import Derived.Outline
namespace Go.Proofs.Ytomadecehklbmaa
open Go.RowKit
set_option linter.unusedSimpArgs false
set_option linter.unusedVariables false

theorem run_store_complex (P : Program) (w : World) (a : Addr) (m : Mode) (k : FloatKind) (x y : Nat) : (store a (.complex k x y) m).run P w = stored P w a (.complex k x y) m := run_store P w a _ m rfl

/-- What one had: own, got, idle, freed. -/
structure Acc where
  own : Int
  got : Int
  idle : Int
  freed : Int

abbrev cx (a b : Int) : Value := .complex .f64 (floatOfInt .f64 a) (floatOfInt .f64 b)
def ledCell (A : Nat → Acc) (j : Nat) : Value := if j % 2 = 0 then cx (A (j / 2)).own (A (j / 2)).got else cx (A (j / 2)).idle (A (j / 2)).freed

/-- A ledger of n accounts A: the struct in block g, its row in block b. -/
def LedAt (w : World) (g b n : Nat) (A : Nat → Acc) : Prop :=
  w.rowIs g 42 1 (fun _ => .slice (some ⟨b, 0, none⟩) n n) ∧ w.rowIs b 51 (n * 2) (ledCell A)

/-- All counts lie between 0 and m. -/
def Within (A : Nat → Acc) (m : Int) : Prop := ∀ i, 0 ≤ (A i).own ∧ (A i).own ≤ m ∧ 0 ≤ (A i).got ∧ (A i).got ≤ m ∧ 0 ≤ (A i).idle ∧ (A i).idle ≤ m ∧ 0 ≤ (A i).freed ∧ (A i).freed ≤ m

def Acc.plus (a : Acc) (x y u v : Int) : Acc := ⟨a.own + x, a.got + y, a.idle + u, a.freed + v⟩
def put (A : Nat → Acc) (k : Nat) (a : Acc) (i : Nat) : Acc := if i = k then a else A i

theorem cx_sum (T : TypeId) {P : Program} (a b c d : Int) (ha : a.natAbs < 2 ^ 53) (hb : b.natAbs < 2 ^ 53) (hc : c.natAbs < 2 ^ 53) (hd : d.natAbs < 2 ^ 53) (hac : (a + c).natAbs < 2 ^ 53) (hbd : (b + d).natAbs < 2 ^ 53) (w : World) :
    (binOp .add T (cx a b) (cx c d)).run P w = .ok (cx (a + c) (b + d)) w := by
  refine run_complex_sum w .add (.inl rfl) T .f64 _ _ _ _ _ _ ?_
  unfold cSumBits
  rw [fl_add ha hc hac, fl_add hb hd hbd]
  rfl

attribute [local go_sem] run_store_complex

theorem rowIs_ne {w : World} {b b' : Nat} {t t' : TypeId} {n n' : Nat} {f f' : Nat → Value} (h : w.rowIs b t n f) (h' : w.rowIs b' t' n' f') (hne : t ≠ t') : b ≠ b' := by
  rintro rfl
  obtain ⟨c, e, _⟩ := h
  obtain ⟨c', e', _⟩ := h'
  rw [e] at e'
  injection e' with e'
  injection e' with _ ht
  exact hne ht

theorem ledCell_even (A : Nat → Acc) (k : Nat) : ledCell A (k * 2) = cx (A k).own (A k).got := by unfold ledCell; rw [if_pos (by omega), show k * 2 / 2 = k by omega]
theorem ledCell_odd (A : Nat → Acc) (k : Nat) : ledCell A (k * 2 + 1) = cx (A k).idle (A k).freed := by unfold ledCell; rw [if_neg (by omega), show (k * 2 + 1) / 2 = k by omega]

theorem led_two {w : World} {g b n k : Nat} {A : Nat → Acc} (h : LedAt w g b n A) (a : Acc) :
    LedAt ((w.setCell ⟨b, k * 2, none⟩ (cx a.own a.got)).setCell ⟨b, k * 2 + 1, none⟩ (cx a.idle a.freed)) g b n (put A k a) := by
  have hne : g ≠ b := rowIs_ne h.1 h.2 (by decide)
  refine ⟨(h.1.setOther (by simpa using hne) _).setOther (by simpa using hne) _, ((h.2.set _ _).set _ _).congr fun j hj => ?_⟩
  by_cases h1 : j = k * 2 + 1
  · rw [if_pos h1, h1, ledCell_odd]; simp [put]
  · rw [if_neg h1]
    by_cases h2 : j = k * 2
    · rw [if_pos h2, h2, ledCell_even]; simp [put]
    · rw [if_neg h2]
      have hj : ¬ j / 2 = k := by omega
      simp only [ledCell, put, if_neg hj]

theorem grown_set {w : World} (b i : Nat) (v : Value) : w.grownBy (w.setCell ⟨b, i, none⟩ v) (some b) :=
  ⟨rfl, rfl, rfl, by simp, fun k _ hne => Below.heap_setCell w _ v k (fun e => hne (by rw [e]))⟩
theorem grown_trans {a b c : World} {row : Option Nat} (h : a.grownBy b row) (k : b.grownBy c row) : a.grownBy c row :=
  ⟨k.os.trans h.os, k.tape.trans h.tape, k.output.trans h.output, Nat.le_trans h.size k.size, fun i hi hne => (k.block i (Nat.lt_of_lt_of_le hi h.size) hne).trans (h.block i hi hne)⟩


theorem add_in (w : World) (g b n k : Nat) (A : Nat → Acc) (m x y u v : Int) (h : LedAt w g b n A) (hk : k < n) (hm : Within A m) (h0 : 0 ≤ m) (hM : m ≤ 1048576)
    (x0 : 0 ≤ x) (x1 : x ≤ 1) (y0 : 0 ≤ y) (y1 : y ≤ 1) (u0 : 0 ≤ u) (u1 : u ≤ 1) (v0 : 0 ≤ v) (v1 : v ≤ 1) :
    Calls Try.prog 16 #[.pointer (some ⟨g, 0, none⟩), .int .i64 (k : Int), cx x y, cx u v] w fun e w' => e = .returned (.tuple #[]) ∧ LedAt w' g b n (put A k ((A k).plus x y u v)) ∧ w.grownBy w' (some b) := by
  have hc0 : w.cell? ⟨g, 0, none⟩ = some (.slice (some ⟨b, 0, none⟩) n n) := h.1.cell (by omega)
  have hc1 := h.2.cell (i := k * 2) (by omega)
  have hc2 := h.2.cell (i := k * 2 + 1) (by omega)
  rw [ledCell_even] at hc1
  rw [ledCell_odd] at hc2
  have hf1 := h.2.frozen (k * 2)
  have hf2 := h.2.frozen (k * 2 + 1)
  have hgb : ¬ g = b := rowIs_ne h.1 h.2 (by decide)
  have hb := hm k
  have hs1 := fun W => cx_sum (P := Try.prog) 47 (A k).own (A k).got x y (by omega) (by omega) (by omega) (by omega) (by omega) (by omega) W
  have hs2 := fun W => cx_sum (P := Try.prog) 47 (A k).idle (A k).freed u v (by omega) (by omega) (by omega) (by omega) (by omega) (by omega) W
  clear hb
  go_enter Try.func16, Try.ntmps16
  go_wp2
  go_end0
  exact ⟨rfl, led_two h ((A k).plus x y u v), grown_trans (grown_set _ _ _) (grown_set _ _ _)⟩

theorem add_out (w : World) (g b n : Nat) (d : Int) (A : Nat → Acc) (p q : Value) (h : LedAt w g b n A) (hd : ¬ (0 ≤ d ∧ d < n)) (hn : n ≤ 1000) :
    Calls Try.prog 16 #[.pointer (some ⟨g, 0, none⟩), .int .i64 d, p, q] w fun e w' => e = .returned (.tuple #[]) ∧ w = w' := by
  have hc0 : w.cell? ⟨g, 0, none⟩ = some (.slice (some ⟨b, 0, none⟩) n n) := h.1.cell (by omega)
  by_cases h0 : 0 ≤ d
  · have h1 : ¬ d < n := by omega
    clear hd
    go_enter Try.func16, Try.ntmps16
    go_wp2
    go_end0
    exact ⟨rfl, rfl⟩
  · clear hd
    go_enter Try.func16, Try.ntmps16
    go_wp2
    go_end0
    exact ⟨rfl, rfl⟩

def addA (A : Nat → Acc) (n : Nat) (d x y u v : Int) : Nat → Acc := if 0 ≤ d ∧ d < n then put A d.toNat ((A d.toNat).plus x y u v) else A

theorem within_add {A : Nat → Acc} {m : Int} (h : Within A m) (h0 : 0 ≤ m) (n : Nat) (d x y u v : Int) (x0 : 0 ≤ x) (x1 : x ≤ 1) (y0 : 0 ≤ y) (y1 : y ≤ 1) (u0 : 0 ≤ u) (u1 : u ≤ 1) (v0 : 0 ≤ v) (v1 : v ≤ 1) :
    Within (addA A n d x y u v) (m + 1) := by
  intro i
  have hi := h i
  have hd := h d.toNat
  unfold addA
  split
  · unfold put
    split
    · simp only [Acc.plus]; omega
    · omega
  · omega

theorem add_any (w : World) (g b n : Nat) (d : Int) (A : Nat → Acc) (m x y u v : Int) (h : LedAt w g b n A) (hn : n ≤ 1000) (hm : Within A m) (h0 : 0 ≤ m) (hM : m ≤ 1048576)
    (x0 : 0 ≤ x) (x1 : x ≤ 1) (y0 : 0 ≤ y) (y1 : y ≤ 1) (u0 : 0 ≤ u) (u1 : u ≤ 1) (v0 : 0 ≤ v) (v1 : v ≤ 1) :
    Calls Try.prog 16 #[.pointer (some ⟨g, 0, none⟩), .int .i64 d, cx x y, cx u v] w fun e w' => e = .returned (.tuple #[]) ∧ LedAt w' g b n (addA A n d x y u v) ∧ w.grownBy w' (some b) := by
  by_cases hd : 0 ≤ d ∧ d < n
  · obtain ⟨k, rfl⟩ : ∃ k : Nat, d = (k : Int) := ⟨d.toNat, by omega⟩
    have e : addA A n (k : Int) x y u v = put A k ((A k).plus x y u v) := by unfold addA; rw [if_pos hd, Int.toNat_natCast]
    rw [e]
    exact add_in w g b n k A m x y u v h (by omega) hm h0 hM x0 x1 y0 y1 u0 u1 v0 v1
  · have e : addA A n d x y u v = A := by unfold addA; rw [if_neg hd]
    rw [e]
    refine (add_out w g b n d A _ _ h hd hn).mono ?_
    rintro e w' ⟨rfl, rfl⟩
    exact ⟨rfl, h, World.grownBy.refl _ _⟩

theorem add_own (w : World) (g b n : Nat) (d : Int) (A : Nat → Acc) (m : Int) (h : LedAt w g b n A) (hn : n ≤ 1000) (hm : Within A m) (h0 : 0 ≤ m) (hM : m ≤ 1048576) :
    Calls Try.prog 16 #[.pointer (some ⟨g, 0, none⟩), .int .i64 d, .complex .f64 4607182418800017408 0, .complex .f64 0 0] w fun e w' => e = .returned (.tuple #[]) ∧ LedAt w' g b n (addA A n d 1 0 0 0) ∧ w.grownBy w' (some b) := by
  have H := add_any w g b n d A m 1 0 0 0 h hn hm h0 hM (by omega) (by omega) (by omega) (by omega) (by omega) (by omega) (by omega) (by omega)
  simpa only [cx, fl_one, fl_zero] using H
theorem add_got (w : World) (g b n : Nat) (d : Int) (A : Nat → Acc) (m : Int) (h : LedAt w g b n A) (hn : n ≤ 1000) (hm : Within A m) (h0 : 0 ≤ m) (hM : m ≤ 1048576) :
    Calls Try.prog 16 #[.pointer (some ⟨g, 0, none⟩), .int .i64 d, .complex .f64 0 4607182418800017408, .complex .f64 0 0] w fun e w' => e = .returned (.tuple #[]) ∧ LedAt w' g b n (addA A n d 0 1 0 0) ∧ w.grownBy w' (some b) := by
  have H := add_any w g b n d A m 0 1 0 0 h hn hm h0 hM (by omega) (by omega) (by omega) (by omega) (by omega) (by omega) (by omega) (by omega)
  simpa only [cx, fl_one, fl_zero] using H
theorem add_idle (w : World) (g b n : Nat) (d : Int) (A : Nat → Acc) (m : Int) (h : LedAt w g b n A) (hn : n ≤ 1000) (hm : Within A m) (h0 : 0 ≤ m) (hM : m ≤ 1048576) :
    Calls Try.prog 16 #[.pointer (some ⟨g, 0, none⟩), .int .i64 d, .complex .f64 0 0, .complex .f64 4607182418800017408 0] w fun e w' => e = .returned (.tuple #[]) ∧ LedAt w' g b n (addA A n d 0 0 1 0) ∧ w.grownBy w' (some b) := by
  have H := add_any w g b n d A m 0 0 1 0 h hn hm h0 hM (by omega) (by omega) (by omega) (by omega) (by omega) (by omega) (by omega) (by omega)
  simpa only [cx, fl_one, fl_zero] using H
theorem add_freed (w : World) (g b n : Nat) (d : Int) (A : Nat → Acc) (m : Int) (h : LedAt w g b n A) (hn : n ≤ 1000) (hm : Within A m) (h0 : 0 ≤ m) (hM : m ≤ 1048576) :
    Calls Try.prog 16 #[.pointer (some ⟨g, 0, none⟩), .int .i64 d, .complex .f64 0 0, .complex .f64 0 4607182418800017408] w fun e w' => e = .returned (.tuple #[]) ∧ LedAt w' g b n (addA A n d 0 0 0 1) ∧ w.grownBy w' (some b) := by
  have H := add_any w g b n d A m 0 0 0 1 h hn hm h0 hM (by omega) (by omega) (by omega) (by omega) (by omega) (by omega) (by omega) (by omega)
  simpa only [cx, fl_one, fl_zero] using H

/-- A ledger behind a quantum. -/
def cntA (A : Nat → Acc) (n : Nat) (o f wi : Int) : Nat → Acc :=
  if 0 ≤ o ∧ o < n then addA (if wi = o then addA A n o 1 0 0 0 else addA (addA A n wi 0 1 0 0) n o 0 0 1 0) n f 0 0 0 1 else A

theorem within_mono {A : Nat → Acc} {m m' : Int} (h : Within A m) (hm : m ≤ m') : Within A m' := fun i => by have := h i; omega

theorem within_cnt {A : Nat → Acc} {m : Int} (h : Within A m) (h0 : 0 ≤ m) (n : Nat) (o f wi : Int) : Within (cntA A n o f wi) (m + 3) := by
  unfold cntA
  split
  · split
    · exact within_mono (within_add (within_add h h0 n o 1 0 0 0 (by omega) (by omega) (by omega) (by omega) (by omega) (by omega) (by omega) (by omega)) (by omega) n f 0 0 0 1 (by omega) (by omega) (by omega) (by omega) (by omega) (by omega) (by omega) (by omega)) (by omega)
    · exact within_mono (within_add (within_add (within_add h h0 n wi 0 1 0 0 (by omega) (by omega) (by omega) (by omega) (by omega) (by omega) (by omega) (by omega)) (by omega) n o 0 0 1 0 (by omega) (by omega) (by omega) (by omega) (by omega) (by omega) (by omega) (by omega)) (by omega) n f 0 0 0 1 (by omega) (by omega) (by omega) (by omega) (by omega) (by omega) (by omega) (by omega)) (by omega)
  · exact within_mono h (by omega)

theorem count_any (w : World) (g b n : Nat) (o f wi : Int) (A : Nat → Acc) (m : Int) (h : LedAt w g b n A) (hn : n ≤ 1000) (hm : Within A m) (h0 : 0 ≤ m) (hM : m ≤ 1000000) :
    Calls Try.prog 9 #[.pointer (some ⟨g, 0, none⟩), .int .i64 o, .int .i64 f, .int .i64 wi] w fun e w' => e = .returned (.tuple #[]) ∧ LedAt w' g b n (cntA A n o f wi) ∧ w.grownBy w' (some b) := by
  have hc0 : w.cell? ⟨g, 0, none⟩ = some (.slice (some ⟨b, 0, none⟩) n n) := h.1.cell (by omega)
  by_cases h1 : 0 ≤ o
  case neg =>
    have HE : Hid (cntA A n o f wi = A) := by unfold cntA; rw [if_neg (by omega)]; exact Lib.hid rfl
    go_enter Try.func9, Try.ntmps9
    go_wp2
    refine bodyPost_ret (results_none rfl _ _ _) rfl ?_
    exact ⟨rfl, by rw [HE.out]; exact h, World.grownBy.refl _ _⟩
  by_cases h2 : o < n
  case neg =>
    have HE : Hid (cntA A n o f wi = A) := by unfold cntA; rw [if_neg (by omega)]; exact Lib.hid rfl
    go_enter Try.func9, Try.ntmps9
    go_wp2
    refine bodyPost_ret (results_none rfl _ _ _) rfl ?_
    exact ⟨rfl, by rw [HE.out]; exact h, World.grownBy.refl _ _⟩
  by_cases h3 : wi = o
  · have HE : Hid (cntA A n o f wi = addA (addA A n o 1 0 0 0) n f 0 0 0 1) := by unfold cntA; rw [if_pos ⟨h1, h2⟩, if_pos h3]; exact Lib.hid rfl
    have m1 := within_add hm h0 n o 1 0 0 0 (by omega) (by omega) (by omega) (by omega) (by omega) (by omega) (by omega) (by omega)
    go_enter Try.func9, Try.ntmps9
    go_wp2_with (first | ((with_reducible go_at_call 16; refine (add_own _ _ _ _ _ _ _ h hn hm h0 (by omega)).mono ?_); rintro e w1 ⟨rfl, l1, g1⟩) | ((with_reducible go_at_call 16; refine (add_freed _ _ _ _ _ _ _ l1 hn m1 (by omega) (by omega)).mono ?_); rintro e w2 ⟨rfl, l2, g2⟩))
    go_end0
    exact ⟨rfl, by rw [HE.out]; exact l2, grown_trans g1 g2⟩
  · have HE : Hid (cntA A n o f wi = addA (addA (addA A n wi 0 1 0 0) n o 0 0 1 0) n f 0 0 0 1) := by unfold cntA; rw [if_pos ⟨h1, h2⟩, if_neg h3]; exact Lib.hid rfl
    have m1 := within_add hm h0 n wi 0 1 0 0 (by omega) (by omega) (by omega) (by omega) (by omega) (by omega) (by omega) (by omega)
    have m2 := within_add m1 (by omega) n o 0 0 1 0 (by omega) (by omega) (by omega) (by omega) (by omega) (by omega) (by omega) (by omega)
    go_enter Try.func9, Try.ntmps9
    go_wp2_with (first | ((with_reducible go_at_call 16; refine (add_got _ _ _ _ _ _ _ h hn hm h0 (by omega)).mono ?_); rintro e w1 ⟨rfl, l1, g1⟩) | ((with_reducible go_at_call 16; refine (add_idle _ _ _ _ _ _ _ l1 hn m1 (by omega) (by omega)).mono ?_); rintro e w2 ⟨rfl, l2, g2⟩) | ((with_reducible go_at_call 16; refine (add_freed _ _ _ _ _ _ _ l2 hn m2 (by omega) (by omega)).mono ?_); rintro e w3 ⟨rfl, l3, g3⟩))
    go_end0
    exact ⟨rfl, by rw [HE.out]; exact l3, grown_trans g1 (grown_trans g2 g3)⟩

end Go.Proofs.Ytomadecehklbmaa
