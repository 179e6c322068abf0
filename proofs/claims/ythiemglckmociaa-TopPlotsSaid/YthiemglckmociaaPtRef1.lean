/- What the small functions of the reference of package plot give. Conditions: coordinates are small. -/
import Derived.Test.YthiemglckmociaaPtTouch
namespace Go.Proofs.Ythiemglckmociaa
open Go.RowKit

def betw (lo x hi : Int) : Bool := decide (lo ≤ x) && decide (x ≤ hi)
/-- Do the ways from a to b and from a to c go in the same direction? -/
def backB (a b c : Int × Int) : Bool := turn a b c == 0 && decide (0 < dot a b c)
theorem touch_is {a b c d : Int × Int} {t : Bool} (w : World) (ha : bdP a) (hb : bdP b) (hc : bdP c) (hd : bdP d) (h : touchB a b c d = t) :
    Gives Try.prog 68 #[.agg #[.int .i64 a.1, .int .i64 a.2, .int .i64 b.1, .int .i64 b.2], .agg #[.int .i64 c.1, .int .i64 c.2, .int .i64 d.1, .int .i64 d.2]] w (.bool t) := h ▸ touch_calls a b c d w ha hb hc hd
theorem ahead_is {a b c : Int × Int} {t : Int} (w : World) (ha : bdP a) (hb : bdP b) (hc : bdP c) (h : dot a b c = t) :
    Gives Try.prog 67 #[.agg #[.int .i64 a.1, .int .i64 a.2], .agg #[.int .i64 b.1, .int .i64 b.2], .agg #[.int .i64 c.1, .int .i64 c.2]] w (.int .i64 t) := h ▸ ahead_calls a b c w ha hb hc

end Go.Proofs.Ythiemglckmociaa
