/- same at equal lists. -/
import Derived.Test.YtdminbjenbbpaaaS3
namespace Go.Proofs.Ytdminbjenbbpaaa
open Go.RowKit
theorem same_true (va vb : Value) (xs : List Int) (w : World) (ha : Rd w va xs.length (xs.map (.int .i64))) (hb : Rd w vb xs.length (xs.map (.int .i64))) (hx : xs.length ≤ 9223372036854775807) :
    Calls Try.prog 16 #[va, vb] w fun e w' => e = .returned (.bool true) ∧ ∃ m, w.drewN m = w' := by
  have := same_any va vb xs xs w ha hb hx hx
  simpa using this
end Go.Proofs.Ytdminbjenbbpaaa
