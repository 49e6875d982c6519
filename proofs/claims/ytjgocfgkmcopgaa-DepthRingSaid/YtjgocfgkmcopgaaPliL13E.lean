/- Sums: the printed functions come to what is told in plain Lean. -/
import Derived.Test.YtjgocfgkmcopgaaPliL11
import Derived.Lib.Mul64
namespace Go.Pli
open Go Go.PM
end Go.Pli

namespace Go.Pli
open Go Go.PM
end Go.Pli

/- All of layer 13 to 16's functions. -/
