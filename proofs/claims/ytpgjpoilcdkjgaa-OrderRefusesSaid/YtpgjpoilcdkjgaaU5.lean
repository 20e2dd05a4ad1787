/- The walk of OrderRefuses. -/
import Derived.Test.YtpgjpoilcdkjgaaU4
import Derived.Test.YtpgjpoilcdkjgaaO41
import Derived.Test.YtpgjpoilcdkjgaaO23
namespace Go.Proofs.Ytpgjpoilcdkjgaa
open Go.RowKit

set_option maxHeartbeats 1000000 in
/-- New of too many events on one line. -/
theorem new_long (a : Option Addr) (cap n : Nat) (hn : 20000 < n) (w : World) (hm : n ≤ 9223372036854775807) :
    Calls Try.prog 14 #[.int .i64 1, .slice a n cap] w (NbPost w 9) := by
  have hz := Lib.hid (show NbPost w 9 (.returned (.tuple #[.pointer none, .int .i64 9])) w from ⟨rfl, Below.refl _ _⟩)
  have d3 : decide ((20000 : Int) < (n : Int)) = true := decide_eq_true (by omega)
  have d3N : decide (20000 < n) = true := decide_eq_true (by omega)
  generalize NbPost w 9 = post at *
  go_enter Try.func14, Try.ntmps14
  go_wp2_with fail
  exact hz.out

/-- What the first loop of the law holds: the reference's events so far. -/
structure SmR (w : World) (es : List GE) (n : Nat) (sa : Option Addr) (sc : Nat) (wr : World) : Prop where
  s : wr.ownsRow 0 67 8 (.slice sa n sc) n (grCells es)
  sb : ∀ k, Value.ownBlock (.slice sa n sc) = some k → w.heap.size ≤ k
  b : Below w.heap.size w wr
theorem SmR.below {w wr wr2 : World} {es : List GE} {n : Nat} {sa : Option Addr} {sc : Nat} (h : SmR w es n sa sc wr) (hb : Below wr.heap.size wr wr2) : SmR w es n sa sc wr2 :=
  ⟨ownsRow_only h.s (Only.of_below hb) (fun k hk e => by have := ownsRow_lt h.s hk; omega), h.sb, h.b.trans (hb.mono h.b.size)⟩

theorem grCells_snoc (l : List GE) (e : GE) : grCells (l ++ [e]) = grCells l ++ e.rcells := by simp [grCells]

/-- The row of the events that are too many. -/
def MnR (b : Nat) (n : Nat) (wr : World) : Prop := ∃ cs : List Value, cs.length = n * 8 ∧ Has wr b cs 65
theorem mk_many (n : Nat) (h : n * 80 ≤ 281474976710656) (w : World) : ∃ w', (Instr.makeSlice 24 (.int .i64 n) (.int .i64 n)).run Try.prog w = .ok (.slice (some ⟨w.heap.size, 0, none⟩) n n) w' ∧ Below w.heap.size w w' ∧ MnR w.heap.size n w' := by
  obtain ⟨i, h1, h2, h3, h4⟩ := info_parts info65
  have hb : (i.bytes : Int) * (n : Int) ≤ 281474976710656 := by rw [h4]; omega
  have := run_make (P := Try.prog) w 24 65 i _ Try.underlying24 h1 h2 .i64 .i64 n n (by omega) (Int.le_refl _) hb (by omega)
  simp only [Int.toNat_natCast, h3] at this
  refine ⟨_, this, (Below.refl _ _).alloc (Nat.le_refl _) _, (madeCells (Value.agg #[.int .u8 0, .int .i64 0, .int .u64 0, .int .u64 0, .int .u64 0, .int .i64 0, .int .i64 0, .slice none 0 0]).cells (n * 8)).toList, ?_, ?_⟩
  · rw [Array.length_toList]; exact size_madeCells _ _
  · have := Has.new w (madeCells (Value.agg #[.int .u8 0, .int .i64 0, .int .u64 0, .int .u64 0, .int .u64 0, .int .i64 0, .int .i64 0, .slice none 0 0]).cells (n * 8)).toList 65
    simpa using this
end Go.Proofs.Ytpgjpoilcdkjgaa
