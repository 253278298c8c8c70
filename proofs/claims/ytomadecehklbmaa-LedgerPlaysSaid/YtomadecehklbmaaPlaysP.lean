/-
  Two ledgers side by side: the program's and the document's.
-/
import Derived.Test.YtomadecehklbmaaRefSum
import Derived.Test.YtomadecehklbmaaApartP
namespace Go.Proofs.Ytomadecehklbmaa
open Go.RowKit
set_option linter.unusedSimpArgs false
set_option linter.unusedVariables false

theorem rat_below {w w' : World} {g n : Nat} {A : Nat → Acc} (h : RAt w g n A) (hb : Below w.heap.size w w') : RAt w' g n A := by
  obtain ⟨c, cap, hr, hc, hrow⟩ := h
  exact ⟨c, cap, hr.of_block (hb.block g hr.lt), hc, hrow.of_block (hb.block c hrow.lt)⟩
/-- Another block was written, of another type. -/
theorem rat_besides {w w' : World} {g n b N : Nat} {T : TypeId} {f : Nat → Value} {A : Nat → Acc} (h : RAt w g n A) (hb : w.rowIs b T N f) (h1 : 45 ≠ T) (h2 : 32 ≠ T) (hg : w.grownBy w' (some b)) : RAt w' g n A := by
  obtain ⟨c, cap, hr, hc, hrow⟩ := h
  have n1 := rowIs_ne hr hb h1
  have n2 := hrow.ne_ hb h2
  exact ⟨c, cap, hr.of_block (hg.block g hr.lt (by simpa using n1)), hc, hrow.of_block (hg.block c hrow.lt (by simpa using n2))⟩
theorem led_besides {w0 w w' : World} {g b n gr N : Nat} {A : Nat → Acc} {m : Int} {f : Nat → Value} (h : Led w0 w g b n A m) (hr : w.rowIs gr 45 N f) (hg : w.grownBy w' (some gr)) (hn : w0.heap.size ≤ gr) : Led w0 w' g b n A m := by
  have n1 := rowIs_ne h.at_.1 hr (by decide)
  have n2 := rowIs_ne h.at_.2 hr (by decide)
  exact ⟨⟨h.at_.1.of_block (hg.block g h.at_.1.lt (by simpa using n1)), h.at_.2.of_block (hg.block b h.at_.2.lt (by simpa using n2))⟩, h.within, h.pos, h.below.grown hg h.below.size (fun k hk => by injection hk with hk; subst hk; exact hn), h.newg, h.newb, h.small⟩

section
variable {w0 w : World} {g b n gr : Nat} {A A' : Nat → Acc} {m : Int}
theorem both_count (h : Led w0 w g b n A m) (hM : m ≤ 1000000) (hr : RAt w gr n A') (o f wi : Int) :
    Calls Try.prog 9 #[.pointer (some ⟨g, 0, none⟩), .int .i64 o, .int .i64 f, .int .i64 wi] w fun e w' => e = .returned (.tuple #[]) ∧ Led w0 w' g b n (cntA A n o f wi) (m + 3) ∧ RAt w' gr n A' := by
  refine (count_led h hM o f wi).mono ?_
  rintro e w' ⟨rfl, l, hg⟩
  exact ⟨rfl, l, rat_besides hr h.at_.2 (by decide) (by decide) hg⟩
theorem both_rcount (h : Led w0 w g b n A' m) (hr : RAt w gr n A) (hn : w0.heap.size ≤ gr) {k : Int} (hw : Within A k) (hM : k ≤ 1000000) (o f wi : Int) :
    Calls Try.prog 10 #[.pointer (some ⟨gr, 0, none⟩), .int .i64 o, .int .i64 f, .int .i64 wi] w fun e w' => e = .returned (.tuple #[]) ∧ Led w0 w' g b n A' m ∧ RAt w' gr n (cntA A n o f wi) := by
  refine (rcount_any w gr n o f wi A k hr h.small hw hM).mono ?_
  rintro e w' ⟨rfl, r, hg⟩
  obtain ⟨c, cap, hh, _⟩ := hr
  exact ⟨rfl, led_besides h hh hg hn, r⟩
end

def ledN (n : Nat) (S : Nat → Int × Int × Int) : Nat → Nat → Acc
  | 0 => fun _ => Acc.zero
  | k + 1 => cntA (ledN n S k) n (S k).1 (S k).2.1 (S k).2.2
end Go.Proofs.Ytomadecehklbmaa
