import Derived.Test.YtihlpchiomkinaaGrA
import Derived.Test.YtihlpchiomkinaaPlL
import Derived.Test.YtihlpchiomkinaaFgA
import Derived.Test.YtihlpchiomkinaaCgA
set_option linter.unusedSimpArgs false
set_option maxRecDepth 8000
namespace Go.Par
open Go.Proofs

def aw18 : G := ⟨[0, 1, 1], [[1], [0, 2], [2]]⟩
theorem aw18_fits : aw18.fits := ⟨by decide, by decide, by decide⟩
theorem aw18_A : regionA aw18 [] [[true]] = .ro false (bools [true, true, false]) := rfl
theorem aw18_B : regionA aw18 [[true]] [[]] = .ro false (bools [true, true, true]) := rfl

end Go.Par
