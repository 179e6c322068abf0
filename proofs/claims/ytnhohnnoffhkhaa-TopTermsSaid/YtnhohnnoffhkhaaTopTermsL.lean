/- The law TopTerms: its walk. Conditions: a calendar lies in memory as said. -/
import Derived.Test.YtnhohnnoffhkhaaTopTerms0
import Derived.Test.YtnhohnnoffhkhaaTopTerms1
import Derived.Test.YtnhohnnoffhkhaaTopTerms2
import Derived.Test.YtnhohnnoffhkhaaTopTerms3
namespace Go.Proofs.Ytnhohnnoffhkhaa
open Go.RowKit

theorem topTerms_calls (v : Value) (c : Cal) (xa xb : Int) (s : Int × Int) (w : World) (h : CalAt w v c) :
    Gives Try.prog 8 #[v, .agg #[.int .i64 xa, .int .i64 xb], .agg #[.int .i64 s.1, .int .i64 s.2]] w (.bool true) := by
  cases hL : (decide (100 < c.free.length) || decide (100 < c.still.length))
  · by_cases hA0 : askedF c [xa] [xb] = 0
    · cases hE : (withE c s == 0)
      · by_cases hbig : 10000 < endsR c xa xb
        · exact topBigN v c xa xb s w h hL hA0 hE hbig
        · cases hOB : (askedF c [xa, endsR c xa xb + 1] [xb] == 0)
          · by_cases hself : endsR c xa xb = xa
            · exact topSmallNfS v c xa xb s w h hL hA0 hE hbig hOB hself
            · exact topSmallNfD v c xa xb s w h hL hA0 hE hbig hOB hself
          · by_cases hself : endsR c xa xb = xa
            · exact topSmallNtS v c xa xb s w h hL hA0 hE hbig hOB hself
            · exact topSmallNtD v c xa xb s w h hL hA0 hE hbig hOB hself
      · by_cases hbig : 10000 < endsR c xa xb
        · exact topBigW v c xa xb s w h hL hA0 hE hbig
        · cases hOB : (askedF c [xa, endsR c xa xb + 1] [xb] == 0)
          · by_cases hself : endsR c xa xb = xa
            · exact topSmallWfS v c xa xb s w h hL hA0 hE hbig hOB hself
            · exact topSmallWfD v c xa xb s w h hL hA0 hE hbig hOB hself
          · by_cases hself : endsR c xa xb = xa
            · exact topSmallWtS v c xa xb s w h hL hA0 hE hbig hOB hself
            · exact topSmallWtD v c xa xb s w h hL hA0 hE hbig hOB hself
    · exact topNo v c xa xb s w h hL hA0
  · exact topLong v c xa xb s w h hL
end Go.Proofs.Ytnhohnnoffhkhaa
