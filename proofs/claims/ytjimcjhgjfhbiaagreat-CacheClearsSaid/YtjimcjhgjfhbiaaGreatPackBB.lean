/- Joined: SortA, SortB, SortC, SortD: contracts and plain laws, each with its own heading below. -/
import Derived.Test.YtjimcjhgjfhbiaaGreatPackBA
import Derived.Sort.AssemblyPlain
import Derived.Sort.WalkA6
import Derived.Sort.WalkA14
import Derived.Sort.Walk7
import Derived.Sort.Walk11
import Derived.Sort.WalkC4
import Derived.Sort.WalkB3
import Derived.Sort.Walk13
import Derived.Lib.AgreeW
import Derived.WalkKit
/- The library's ordered sort at []uint64, walked: the kit's worked walks at []int, turned (sortport.py). -/
namespace Go.Proofs.YtjimcjhgjfhbiaaGreat
open Go.RowKit Go.Sort

end Go.Proofs.YtjimcjhgjfhbiaaGreat
/- The library's ordered sort at []uint64, walked: the kit's worked walks at []int, turned (sortport.py). -/
namespace Go.Proofs.YtjimcjhgjfhbiaaGreat
open Go.RowKit Go.Sort

end Go.Proofs.YtjimcjhgjfhbiaaGreat
/- The library's ordered sort at []uint64, walked: the kit's worked walks at []int, turned (sortport.py). -/
namespace Go.Proofs.YtjimcjhgjfhbiaaGreat
open Go.RowKit Go.Sort

end Go.Proofs.YtjimcjhgjfhbiaaGreat
/- The library's ordered sort at []uint64, walked: the kit's worked walks at []int, turned (sortport.py). -/
namespace Go.Proofs.YtjimcjhgjfhbiaaGreat
open Go.RowKit Go.Sort

end Go.Proofs.YtjimcjhgjfhbiaaGreat
