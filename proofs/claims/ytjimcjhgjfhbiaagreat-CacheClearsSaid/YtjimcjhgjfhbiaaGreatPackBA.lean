/- Joined: SortL: contracts and plain laws, each with its own heading below. -/
import Derived.Test.YtjimcjhgjfhbiaaGreatProg
import Derived.Lib.Strings
import Derived.Lib.Slices
import Derived.Lib.Small
import Derived.Lib.Walk
import Derived.Lib.BitFns
/- The library's ordered sort at []uint64, walked: the kit's worked walks at []int, turned (sortport.py). -/
namespace Go.Proofs.YtjimcjhgjfhbiaaGreat
end Go.Proofs.YtjimcjhgjfhbiaaGreat
