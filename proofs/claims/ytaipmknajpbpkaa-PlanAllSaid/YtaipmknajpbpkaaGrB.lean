import Derived.Test.YtaipmknajpbpkaaGrA
import Derived.Test.YtaipmknajpbpkaaPlL
import Derived.Test.YtaipmknajpbpkaaFgA
import Derived.Test.YtaipmknajpbpkaaCgA
set_option linter.unusedSimpArgs false
set_option maxRecDepth 8000
namespace Go.Par
open Go.Proofs

def aw18 : G := ⟨[0, 1, 1], [[1], [0, 2], [2]]⟩
theorem aw18_fits : aw18.fits := ⟨by decide, by decide, by decide⟩
theorem aw18_A : regionA aw18 [] [[true]] = .ro false (bools [true, true, false]) := rfl
theorem aw18_B : regionA aw18 [[true]] [[]] = .ro false (bools [true, true, true]) := rfl

end Go.Par
