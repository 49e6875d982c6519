import Derived.Test.YtibkgmpfncacpaaPliL5G
import Derived.Test.YtibkgmpfncacpaaPMKit
import Derived.Test.YtibkgmpfncacpaaPMSaid
import Derived.Test.YtibkgmpfncacpaaProg
import Derived.KernelRfl
namespace Go.Pli
open Go Go.PM

open Go.Proofs
abbrev tySu8 : Ty := .sl 5 (.int .u8)
abbrev tySi64 : Ty := .sl 3 (.int .i64)
abbrev tyTTp : Ty := .pair (.int .i64) (.pair (.int .i64) .unit)
abbrev tyTIns : Ty := .pair (.int .i64) tyTTp
abbrev tyStyTTp : Ty := .sl 35 tyTTp
abbrev tyTCl : Ty := .pair (.int .i64) (.pair tyStyTTp (.pair tySi64 .unit))
abbrev tyStyTCl : Ty := .sl 44 tyTCl
abbrev tyStyTIns : Ty := .sl 41 tyTIns
abbrev tyTMt : Ty := .pair tyStyTTp (.pair tyStyTTp (.pair tyTTp (.pair tyStyTIns (.pair (.int .i64) (.pair (.int .i64) (.pair tySi64 .unit))))))
abbrev tyStyTMt : Ty := .sl 38 tyTMt
abbrev tySi32 : Ty := .sl 21 (.int .i32)
abbrev tyTIm : Ty := .pair tyStyTCl (.pair tyStyTTp (.pair tySi32 (.pair tyStyTMt (.pair tySi64 tyTTp))))
abbrev tyStyStyTTp : Ty := .sl 23 tyStyTTp
def putS : FSpec := ⟨[.tip (tySu8), .val ((.int .i64))], [.tip (tySu8)], fun z => put z.1 z.2.1⟩
def longS : FSpec := ⟨[.tip (tySu8), .val ((.int .i32))], [.tip (tySu8)], fun z => longN z.1 z.2.1⟩
def newS : FSpec := ⟨[.val (tySu8)], [.box 124 ((.pair tySu8 (.pair .bool .unit)))], fun z => some (newN z.1, ())⟩
def nextS : FSpec := ⟨[.box 124 ((.pair tySu8 (.pair .bool .unit)))], [.val ((.int .u64)), .val (.bool)], fun z => next z.1⟩
def getS : FSpec := ⟨[.box 124 ((.pair tySu8 (.pair .bool .unit))), .val ((.int .i64))], [.val ((.int .i64))], fun z => getN z.1 z.2.1⟩
def glongS : FSpec := ⟨[.box 124 ((.pair tySu8 (.pair .bool .unit)))], [.val ((.int .i32))], fun z => glongN z.1⟩
def finS : FSpec := ⟨[.box 124 ((.pair tySu8 (.pair .bool .unit)))], [.val (.bool)], fun z => finN z.1⟩
def rbytesS : FSpec := ⟨[.val ((.int .i64))], [.tip (tySu8)], fun z => rbytes z.1⟩
def rsignedS : FSpec := ⟨[.val ((.int .i32))], [.tip (tySu8)], fun z => rsignedN z.1⟩
def rinS : FSpec := ⟨[.val (tySi64), .val ((.int .i64))], [.val (.bool)], fun z => rin z.1 z.2.1⟩
def rargsS : FSpec := ⟨[.val ((.int .i64))], [.val ((.int .i64))], fun z => some (rargs z.1, ())⟩
def iargsS : FSpec := ⟨[.val ((.int .i64))], [.val ((.int .i64))], fun z => some (iargs z.1, ())⟩
def withinS : FSpec := ⟨[.val ((.int .i64)), .val ((.int .i64)), .val ((.int .i64))], [.val (.bool)], fun z => some (within z.1 z.2.1 z.2.2.1, ())⟩
def igoodS : FSpec := ⟨[.val (tyTIns)], [.val (.bool)], fun z => some (igood z.1, ())⟩
def iputS : FSpec := ⟨[.tip (tySu8), .val (tyTIns)], [.tip (tySu8)], fun z => iput z.1 z.2.1⟩
def igetS : FSpec := ⟨[.box 124 ((.pair tySu8 (.pair .bool .unit)))], [.val (tyTIns)], fun z => igetN z.1⟩
def rinstrS : FSpec := ⟨[.val (tyTIns)], [.val (.bool)], fun z => some (rinstr z.1, ())⟩
def indexClassS : FSpec := ⟨[.val (tyStyTCl), .val ((.clo 45 .unit))], [.val ((.int .i64))], fun z => some (indexClass z.1 z.2.1, ())⟩
def containsClassS : FSpec := ⟨[.val (tyStyTCl), .val ((.clo 45 .unit))], [.val (.bool)], fun z => some (containsClass z.1 z.2.1, ())⟩
def indexMethodS : FSpec := ⟨[.val (tyStyTMt), .val ((.clo 48 .unit))], [.val ((.int .i64))], fun z => some (indexMethod z.1 z.2.1, ())⟩
def containsMethodS : FSpec := ⟨[.val (tyStyTMt), .val ((.clo 48 .unit))], [.val (.bool)], fun z => some (containsMethod z.1 z.2.1, ())⟩
def indexTypesS : FSpec := ⟨[.val (tyStyTTp), .val ((.clo 96 .unit))], [.val ((.int .i64))], fun z => some (indexTypes z.1 z.2.1, ())⟩
def containsTypesS : FSpec := ⟨[.val (tyStyTTp), .val ((.clo 96 .unit))], [.val (.bool)], fun z => some (containsTypes z.1 z.2.1, ())⟩
def indexEntryS : FSpec := ⟨[.val (tyStyTTp), .val ((.clo 89 (.pair (.clo 87 .unit) .unit)))], [.val ((.int .i64))], fun z => some (indexEntry z.1 z.2.1, ())⟩
def containsEntryS : FSpec := ⟨[.val (tyStyTTp), .val ((.clo 89 (.pair (.clo 87 .unit) .unit)))], [.val (.bool)], fun z => some (containsEntry z.1 z.2.1, ())⟩
def indexNumsS : FSpec := ⟨[.val (tySi64), .val ((.clo 102 (.pair (.int .i64) .unit)))], [.val ((.int .i64))], fun z => some (indexNums z.1 z.2.1, ())⟩
def containsNumsS : FSpec := ⟨[.val (tySi64), .val ((.clo 102 (.pair (.int .i64) .unit)))], [.val (.bool)], fun z => some (containsNums z.1 z.2.1, ())⟩
def clipByS : FSpec := ⟨[.val (tySu8)], [.val (tySu8)], fun z => some (idL z.1, ())⟩
def clipCS : FSpec := ⟨[.val (tyStyTCl)], [.val (tyStyTCl)], fun z => some (idL z.1, ())⟩
def clipMS : FSpec := ⟨[.val (tyStyTMt)], [.val (tyStyTMt)], fun z => some (idL z.1, ())⟩
def clipTS : FSpec := ⟨[.val (tyStyTTp)], [.val (tyStyTTp)], fun z => some (idL z.1, ())⟩
def clipIS : FSpec := ⟨[.val (tySi64)], [.val (tySi64)], fun z => some (idL z.1, ())⟩
def clipXS : FSpec := ⟨[.val (tyStyTIns)], [.val (tyStyTIns)], fun z => some (idL z.1, ())⟩
def clipJS : FSpec := ⟨[.val (tySi32)], [.val (tySi32)], fun z => some (idL z.1, ())⟩
def cloneTS : FSpec := ⟨[.val (tyStyTTp)], [.val (tyStyTTp)], fun z => cloneTN z.1⟩
def cloneJS : FSpec := ⟨[.val (tySi32)], [.val (tySi32)], fun z => cloneJN z.1⟩
def cloneIS : FSpec := ⟨[.val (tySi64)], [.val (tySi64)], fun z => cloneIN z.1⟩
def cloneXS : FSpec := ⟨[.val (tyStyTIns)], [.val (tyStyTIns)], fun z => cloneXN z.1⟩
def anTS : FSpec := ⟨[.val (tyStyTTp)], [.val (tyStyTTp)], fun z => anTN z.1⟩
def anJS : FSpec := ⟨[.val (tySi32)], [.val (tySi32)], fun z => anJN z.1⟩
def anIS : FSpec := ⟨[.val (tySi64)], [.val (tySi64)], fun z => anIN z.1⟩
def anXS : FSpec := ⟨[.val (tyStyTIns)], [.val (tyStyTIns)], fun z => anXN z.1⟩
def eqTS : FSpec := ⟨[.val (tyStyTTp), .val (tyStyTTp)], [.val (.bool)], fun z => some (eqL z.1 z.2.1, ())⟩
def eqJS : FSpec := ⟨[.val (tySi32), .val (tySi32)], [.val (.bool)], fun z => some (eqL z.1 z.2.1, ())⟩
def eqIS : FSpec := ⟨[.val (tySi64), .val (tySi64)], [.val (.bool)], fun z => some (eqL z.1 z.2.1, ())⟩
def eqXS : FSpec := ⟨[.val (tyStyTIns), .val (tyStyTIns)], [.val (.bool)], fun z => some (eqL z.1 z.2.1, ())⟩
def iwithinS : FSpec := ⟨[.val ((.int .i64)), .val ((.int .i64))], [.val (.bool)], fun z => some (iwithin z.1 z.2.1, ())⟩
def itypS : FSpec := ⟨[.val (tyTTp)], [.val (.bool)], fun z => some (ityp z.1, ())⟩
def ityp1S : FSpec := ⟨[.val (tyTTp)], [.val (.bool)], fun z => some (ityp1 z.1, ())⟩
def itypesS : FSpec := ⟨[.val (tyStyTTp), .val ((.int .i64))], [.val (.bool)], fun z => some (itypes z.1 z.2.1, ())⟩
def inum1S : FSpec := ⟨[.val ((.int .i64)), .cap ((.int .i64))], [.val (.bool)], fun z => some (inum1 z.1 z.2.1, ())⟩
def inumsS : FSpec := ⟨[.val (tySi64), .val ((.int .i64)), .val ((.int .i64))], [.val (.bool)], fun z => some (inums z.1 z.2.1 z.2.2.1, ())⟩
def imethodS : FSpec := ⟨[.val (tyTMt)], [.val (.bool)], fun z => some (imethod z.1, ())⟩
def iclassS : FSpec := ⟨[.val (tyTCl)], [.val (.bool)], fun z => some (iclass z.1, ())⟩
def ifits1S : FSpec := ⟨[.val (tyTCl)], [.val (.bool)], fun z => some (ifits1 z.1, ())⟩
def ifits2S : FSpec := ⟨[.val (tyTMt)], [.val (.bool)], fun z => some (ifits2 z.1, ())⟩
def ifitsS : FSpec := ⟨[.val (tyTIm)], [.val (.bool)], fun z => some (ifits z.1, ())⟩
def putTypeS : FSpec := ⟨[.tip (tySu8), .val (tyTTp)], [.tip (tySu8)], fun z => putType z.1 z.2.1⟩
def putTypesS : FSpec := ⟨[.tip (tySu8), .val (tyStyTTp)], [.tip (tySu8)], fun z => putTypes z.1 z.2.1⟩
def putNumsS : FSpec := ⟨[.tip (tySu8), .val (tySi64)], [.tip (tySu8)], fun z => putNums z.1 z.2.1⟩
def putMethodS : FSpec := ⟨[.tip (tySu8), .val (tyTMt)], [.tip (tySu8)], fun z => putMethod z.1 z.2.1⟩
def iencodeS : FSpec := ⟨[.val (tyTIm)], [.val (tySu8), .val ((.int .i64))], fun z => iencode z.1⟩
def getTypeS : FSpec := ⟨[.box 124 ((.pair tySu8 (.pair .bool .unit)))], [.val (tyTTp)], fun z => getType z.1⟩
def getTypesS : FSpec := ⟨[.box 124 ((.pair tySu8 (.pair .bool .unit))), .val ((.int .i64))], [.val (tyStyTTp)], fun z => getTypes z.1 z.2.1⟩
def getNumsS : FSpec := ⟨[.box 124 ((.pair tySu8 (.pair .bool .unit))), .val ((.int .i64)), .val ((.int .i64))], [.val (tySi64)], fun z => getNums z.1 z.2.1 z.2.2.1⟩
def getMethodS : FSpec := ⟨[.box 124 ((.pair tySu8 (.pair .bool .unit)))], [.val (tyTMt)], fun z => getMethod z.1⟩
def idecodeS : FSpec := ⟨[.val (tySu8)], [.val (tyTIm), .val ((.int .i64))], fun z => idecode z.1⟩
def sameClassS : FSpec := ⟨[.val (tyTCl), .val (tyTCl)], [.val (.bool)], fun z => some (sameClass z.1 z.2.1, ())⟩
def sameMethodS : FSpec := ⟨[.val (tyTMt), .val (tyTMt)], [.val (.bool)], fun z => some (sameMethod z.1 z.2.1, ())⟩
def eqfCS : FSpec := ⟨[.val (tyStyTCl), .val (tyStyTCl), .val ((.clo 74 .unit))], [.val (.bool)], fun z => some (eqfC z.1 z.2.1 z.2.2.1, ())⟩
def eqfMS : FSpec := ⟨[.val (tyStyTMt), .val (tyStyTMt), .val ((.clo 76 .unit))], [.val (.bool)], fun z => some (eqfM z.1 z.2.1 z.2.2.1, ())⟩
def isameS : FSpec := ⟨[.val (tyTIm), .val (tyTIm)], [.val (.bool)], fun z => some (isame z.1 z.2.1, ())⟩
def icopyS : FSpec := ⟨[.val (tyTIm)], [.val (tyTIm)], fun z => icopy z.1⟩
def kgoodS : FSpec := ⟨[.val (tyTTp), .val ((.int .i64))], [.val (.bool)], fun z => some (kgood z.1 z.2.1, ())⟩
def kisrefS : FSpec := ⟨[.val (tyTTp)], [.val (.bool)], fun z => some (kisref z.1, ())⟩
def kupS : FSpec := ⟨[.val (tyStyTCl), .val ((.int .i64))], [.val ((.int .i64))], fun z => some (kup z.1 z.2.1, ())⟩
def kbelowS : FSpec := ⟨[.val (tyStyTCl), .val ((.int .i64)), .val ((.int .i64))], [.val (.bool)], fun z => some (kbelow z.1 z.2.1 z.2.2.1, ())⟩
def ksubS : FSpec := ⟨[.val (tyStyTCl), .val (tyTTp), .val (tyTTp)], [.val (.bool)], fun z => some (ksub z.1 z.2.1 z.2.2.1, ())⟩
def raboveS : FSpec := ⟨[.val (tyStyTCl), .val ((.int .i64))], [.val (tySi64)], fun z => rabove z.1 z.2.1⟩
def risrefS : FSpec := ⟨[.val (tyTTp)], [.val (.bool)], fun z => some (risref z.1, ())⟩
def rgoodS : FSpec := ⟨[.val (tyTTp), .val ((.int .i64))], [.val (.bool)], fun z => some (rgood z.1 z.2.1, ())⟩
def rsubS : FSpec := ⟨[.val (tyStyTCl), .val (tyTTp), .val (tyTTp)], [.val (.bool)], fun z => rsub z.1 z.2.1 z.2.2.1⟩
def rtypesS : FSpec := ⟨[.val (tyStyTTp), .val (tyStyTTp)], [.val (.bool)], fun z => some (rtypes z.1 z.2.1, ())⟩
def rintsS : FSpec := ⟨[.val (tySi64), .val (tySi64)], [.val (.bool)], fun z => some (rints z.1 z.2.1, ())⟩
def r5inS : FSpec := ⟨[.val ((.int .i64)), .val ((.int .i64)), .val ((.int .i64))], [.val (.bool)], fun z => some (r5in z.1 z.2.1 z.2.2.1, ())⟩
def r5listS : FSpec := ⟨[.val (tySi64), .val ((.int .i64)), .val ((.int .i64))], [.val (.bool)], fun z => some (r5list z.1 z.2.1 z.2.2.1, ())⟩
def r5typS : FSpec := ⟨[.val (tyTTp)], [.val (.bool)], fun z => some (r5typ z.1, ())⟩
def r5typesS : FSpec := ⟨[.val (tyStyTTp), .val ((.int .i64))], [.val (.bool)], fun z => some (r5types z.1 z.2.1, ())⟩
def r5fitsS : FSpec := ⟨[.val (tyTIm)], [.val (.bool)], fun z => some (r5fits z.1, ())⟩
def r5numsS : FSpec := ⟨[.val (tySi64)], [.tip (tySu8)], fun z => r5nums z.1⟩
def r5oneS : FSpec := ⟨[.val (tyTTp)], [.tip (tySu8)], fun z => r5one z.1⟩
def r5severalS : FSpec := ⟨[.val (tyStyTTp)], [.tip (tySu8)], fun z => r5several z.1⟩
def r5encodeS : FSpec := ⟨[.val (tyTIm)], [.tip (tySu8)], fun z => r5encode z.1⟩
def r5sameS : FSpec := ⟨[.val (tyTIm), .val (tyTIm)], [.val (.bool)], fun z => some (r5same z.1 z.2.1, ())⟩
def r5fieldsS : FSpec := ⟨[.val (tyTIm), .val ((.int .i64))], [.tip (tyStyTTp)], fun z => r5fields z.1 z.2.1⟩
def r5goodS : FSpec := ⟨[.val (tyTIm), .val (tyStyTTp)], [.val (.bool)], fun z => some (r5good z.1 z.2.1, ())⟩
def r5classS : FSpec := ⟨[.val (tyTIm), .val ((.int .i64))], [.val (.bool)], fun z => r5class z.1 z.2.1⟩
def r5namedS : FSpec := ⟨[.val (tyTIm), .val (tyTMt), .val (tyTIns)], [.val (.bool)], fun z => r5named z.1 z.2.1 z.2.2.1⟩
def r5methodS : FSpec := ⟨[.val (tyTIm), .val (tyTMt)], [.val (.bool)], fun z => r5method z.1 z.2.1⟩
def r5saneS : FSpec := ⟨[.val (tyTIm)], [.val ((.int .i64))], fun z => some (r5sane z.1, ())⟩
def sinS : FSpec := ⟨[.val ((.int .i64)), .val ((.int .i64))], [.val (.bool)], fun z => some (sin z.1 z.2.1, ())⟩
def sallS : FSpec := ⟨[.val (tyTIm), .val (tyStyStyTTp)], [.val (.bool)], fun z => some (sall z.1 z.2.1, ())⟩
def saboveS : FSpec := ⟨[.val (tyTIm), .val ((.int .i64))], [.val ((.int .i64)), .val (tySi64)], fun z => sabove z.1 z.2.1⟩
def sfitsS : FSpec := ⟨[.val (tyTIm), .val ((.int .i64)), .val ((.int .i64))], [.val (.bool)], fun z => sfits z.1 z.2.1 z.2.2.1⟩
def salikeS : FSpec := ⟨[.val (tyTMt), .val (tyTMt)], [.val (.bool)], fun z => some (salike z.1 z.2.1, ())⟩
def sclassS : FSpec := ⟨[.val (tyTIm), .val ((.int .i64))], [.val (.bool)], fun z => sclass z.1 z.2.1⟩
def sfieldsS : FSpec := ⟨[.val ((.int .i64)), .cap (tyTIm)], [.val ((.int .i64))], fun z => sfields z.1 z.2.1⟩
def sinstrS : FSpec := ⟨[.val (tyTIm), .val (tyTMt), .val (tyTIns), .val ((.clo 85 (.pair tyTIm .unit)))], [.val (.bool)], fun z => sinstr z.1 z.2.1 z.2.2.1 z.2.2.2.1⟩
def smethodS : FSpec := ⟨[.val (tyTIm), .val (tyTMt)], [.val (.bool)], fun z => smethod z.1 z.2.1⟩
def sentry1S : FSpec := ⟨[.val (tyTTp)], [.val (.bool)], fun z => some (sentry1 z.1, ())⟩
def sentry2S : FSpec := ⟨[.val (tyTTp), .cap ((.clo 87 .unit))], [.val (.bool)], fun z => some (sentry2 z.1 z.2.1, ())⟩
def sentryS : FSpec := ⟨[.val (tyTIm), .val ((.int .i64))], [.val (.bool)], fun z => sentry z.1 z.2.1⟩
def scheckS : FSpec := ⟨[.val (tyTIm)], [.val ((.int .i64))], fun z => some (scheck z.1, ())⟩
def awake6S : FSpec := ⟨[], [.val (.bool)], fun _ => awake6N⟩
def small6S : FSpec := ⟨[.val (tyTIm)], [.val (.bool)], fun z => some (small6 z.1, ())⟩
def saneChecksT : List Ty := [tyTIm]
noncomputable def saneChecksS : FSpec := ⟨[.val (tyTIm)], [.val (.bool)], fun z => @ite _ (WfAll Try.prog saneChecksT z) (Classical.propDecidable _) (some (true, ())) none⟩
def sanePartsT : List Ty := [tyTIm, (.int .i32)]
noncomputable def sanePartsS : FSpec := ⟨[.val (tyTIm), .val ((.int .i32))], [.val (.bool)], fun z => @ite _ (WfAll Try.prog sanePartsT z) (Classical.propDecidable _) (some (true, ())) none⟩
def awake5S : FSpec := ⟨[], [.val (.bool)], fun _ => awake5N⟩
def small5S : FSpec := ⟨[.val (tyTIm)], [.val (.bool)], fun z => some (small5 z.1, ())⟩
def imageEncodesT : List Ty := [tyTIm]
noncomputable def imageEncodesS : FSpec := ⟨[.val (tyTIm)], [.val (.bool)], fun z => @ite _ (WfAll Try.prog imageEncodesT z) (Classical.propDecidable _) (some (true, ())) none⟩
def imageDecodesT : List Ty := [tySu8]
noncomputable def imageDecodesS : FSpec := ⟨[.val (tySu8)], [.val (.bool)], fun z => @ite _ (WfAll Try.prog imageDecodesT z) (Classical.propDecidable _) (some (true, ())) none⟩
def imageCutsT : List Ty := [tyTIm, (.int .u16), tySu8]
noncomputable def imageCutsS : FSpec := ⟨[.val (tyTIm), .val ((.int .u16)), .val (tySu8)], [.val (.bool)], fun z => @ite _ (WfAll Try.prog imageCutsT z) (Classical.propDecidable _) (some (true, ())) none⟩

def putG : Ctx := { ty := [(3, (.int .i64)), (5, (.int .u8)), (46, tySu8), (113, (.int .u64))], fns := [], tips := [11, 20], n := 25, bxs := [], ptrs := [] }
def putA : Ann := ⟨[(2, (3, [.val 0 (tySu8) true, .val 5 ((.int .u64)) false]))], [], [], []⟩
theorem putE (fuel : Nat) (b : List Int) (n : Int) : fnRun putG putA fuel Try.f32 [.tip (tySu8), .val ((.int .i64))] [.tip (tySu8)] (b, n, ()) = putN fuel b n := by kernel_rfl
theorem putO : FOk Try.prog 32 putS := fok (G := putG) (fn := Try.f32) (A := putA) (ctxOk (by kernel_rfl) (by kernel_rfl) trivial) Try.func32 (by kernel_rfl) (by kernel_rfl) fun z r _ h => (put_ok _ _ r h).elim fun k hk => ⟨k, (putE k z.1 z.2.1).trans hk⟩

def longG : Ctx := { ty := [(3, (.int .i64)), (21, (.int .i32)), (46, tySu8), (115, (.int .u32))], fns := [(32, putS)], tips := [5], n := 15, bxs := [], ptrs := [] }
def longA : Ann := ⟨[], [], [], []⟩
theorem longE (fuel : Nat) (b : List Int) (n : Int) : fnRun longG longA fuel Try.f35 [.tip (tySu8), .val ((.int .i32))] [.tip (tySu8)] (b, n, ()) = longN b n := by kernel_rfl
theorem longO : FOk Try.prog 35 longS := fok (G := longG) (fn := Try.f35) (A := longA) (ctxOk (by kernel_rfl) (by kernel_rfl) ⟨putO, trivial⟩) Try.func35 (by kernel_rfl) (by kernel_rfl) fun z r _ h => ⟨0, (longE 0 z.1 z.2.1).trans h⟩

def newG : Ctx := { ty := [(124, (.pair tySu8 (.pair .bool .unit)))], fns := [], tips := [], n := 6, bxs := [5], ptrs := [] }
def newA : Ann := ⟨[], [], [], []⟩
theorem newE (fuel : Nat) (b : List Int) : fnRun newG newA fuel Try.f58 [.val (tySu8)] [.box 124 ((.pair tySu8 (.pair .bool .unit)))] (b, ()) = some (newN b, ()) := by kernel_rfl
theorem newO : FOk Try.prog 58 newS := fok (G := newG) (fn := Try.f58) (A := newA) (ctxOk (by kernel_rfl) (by kernel_rfl) trivial) Try.func58 (by kernel_rfl) (by kernel_rfl) fun z r _ h => ⟨0, (newE 0 z.1).trans h⟩

def nextG : Ctx := { ty := [(5, (.int .u8)), (46, tySu8), (113, (.int .u64)), (124, (.pair tySu8 (.pair .bool .unit)))], fns := [], tips := [], n := 47, bxs := [1000000], ptrs := [] }
def nextA : Ann := ⟨[(3, (8, [.val 4 ((.int .u64)) false, .val 12 ((.int .i64)) false]))], [], [], []⟩
theorem nextE (fuel : Nat) (r : List Int × Bool × Unit) : fnRun nextG nextA fuel Try.f104 [.box 124 ((.pair tySu8 (.pair .bool .unit)))] [.val ((.int .u64)), .val (.bool)] (r, ()) = nextN fuel r := by kernel_rfl
theorem nextO : FOk Try.prog 104 nextS := fok (G := nextG) (fn := Try.f104) (A := nextA) (ctxOk (by kernel_rfl) (by kernel_rfl) trivial) Try.func104 (by kernel_rfl) (by kernel_rfl) fun z r _ h => (next_ok _ r h).elim fun k hk => ⟨k, (nextE k z.1).trans hk⟩

def getG : Ctx := { ty := [(3, (.int .i64)), (4, .bool), (113, (.int .u64)), (124, (.pair tySu8 (.pair .bool .unit)))], fns := [(104, nextS)], tips := [], n := 37, bxs := [1000000], ptrs := [84] }
def getA : Ann := ⟨[], [], [], []⟩
theorem getE (fuel : Nat) (r : List Int × Bool × Unit) (n : Int) : fnRun getG getA fuel Try.f59 [.box 124 ((.pair tySu8 (.pair .bool .unit))), .val ((.int .i64))] [.val ((.int .i64))] (r, n, ()) = getN r n := by kernel_rfl
theorem getO : FOk Try.prog 59 getS := fok (G := getG) (fn := Try.f59) (A := getA) (ctxOk (by kernel_rfl) (by kernel_rfl) ⟨nextO, trivial⟩) Try.func59 (by kernel_rfl) (by kernel_rfl) fun z r _ h => ⟨0, (getE 0 z.1 z.2.1).trans h⟩

def glongG : Ctx := { ty := [(3, (.int .i64)), (21, (.int .i32)), (115, (.int .u32))], fns := [(59, getS)], tips := [], n := 15, bxs := [1000000], ptrs := [] }
def glongA : Ann := ⟨[], [], [], []⟩
theorem glongE (fuel : Nat) (r : List Int × Bool × Unit) : fnRun glongG glongA fuel Try.f62 [.box 124 ((.pair tySu8 (.pair .bool .unit)))] [.val ((.int .i32))] (r, ()) = glongN r := by kernel_rfl
theorem glongO : FOk Try.prog 62 glongS := fok (G := glongG) (fn := Try.f62) (A := glongA) (ctxOk (by kernel_rfl) (by kernel_rfl) ⟨getO, trivial⟩) Try.func62 (by kernel_rfl) (by kernel_rfl) fun z r _ h => ⟨0, (glongE 0 z.1).trans h⟩

def finG : Ctx := { ty := [(4, .bool), (46, tySu8), (124, (.pair tySu8 (.pair .bool .unit)))], fns := [], tips := [], n := 20, bxs := [1000000], ptrs := [84] }
def finA : Ann := ⟨[], [], [], []⟩
theorem finE (fuel : Nat) (r : List Int × Bool × Unit) : fnRun finG finA fuel Try.f64 [.box 124 ((.pair tySu8 (.pair .bool .unit)))] [.val (.bool)] (r, ()) = finN r := by kernel_rfl
theorem finO : FOk Try.prog 64 finS := fok (G := finG) (fn := Try.f64) (A := finA) (ctxOk (by kernel_rfl) (by kernel_rfl) trivial) Try.func64 (by kernel_rfl) (by kernel_rfl) fun z r _ h => ⟨0, (finE 0 z.1).trans h⟩

def rbytesG : Ctx := { ty := [(3, (.int .i64)), (5, (.int .u8)), (46, tySu8)], fns := [], tips := [9, 18], n := 23, bxs := [], ptrs := [] }
def rbytesA : Ann := ⟨[(4, (3, [.val 0 ((.int .i64)) false, .val 3 (tySu8) true]))], [(1, (2, [.val 0 ((.int .i64)) false]))], [], []⟩
theorem rbytesE (fuel : Nat) (n : Int) : fnRun rbytesG rbytesA fuel Try.f52 [.val ((.int .i64))] [.tip (tySu8)] (n, ()) = rbytesN fuel n := by kernel_rfl
theorem rbytesO : FOk Try.prog 52 rbytesS := fok (G := rbytesG) (fn := Try.f52) (A := rbytesA) (ctxOk (by kernel_rfl) (by kernel_rfl) trivial) Try.func52 (by kernel_rfl) (by kernel_rfl) fun z r _ h => (rbytes_ok _ r h).elim fun k hk => ⟨k, (rbytesE k z.1).trans hk⟩

def rsignedG : Ctx := { ty := [(3, (.int .i64)), (21, (.int .i32)), (46, tySu8)], fns := [(52, rbytesS)], tips := [], n := 14, bxs := [], ptrs := [] }
def rsignedA : Ann := ⟨[], [], [], []⟩
theorem rsignedE (fuel : Nat) (n : Int) : fnRun rsignedG rsignedA fuel Try.f55 [.val ((.int .i32))] [.tip (tySu8)] (n, ()) = rsignedN n := by kernel_rfl
theorem rsignedO : FOk Try.prog 55 rsignedS := fok (G := rsignedG) (fn := Try.f55) (A := rsignedA) (ctxOk (by kernel_rfl) (by kernel_rfl) ⟨rbytesO, trivial⟩) Try.func55 (by kernel_rfl) (by kernel_rfl) fun z r _ h => ⟨0, (rsignedE 0 z.1).trans h⟩

def rinG : Ctx := { ty := [(3, (.int .i64)), (26, tySi64)], fns := [], tips := [], n := 18, bxs := [], ptrs := [] }
def rinA : Ann := ⟨[(2, (4, [.val 5 ((.int .i64)) false]))], [], [], []⟩
theorem rinE (fuel : Nat) (l : List Int) (x : Int) : fnRun rinG rinA fuel Try.f103 [.val (tySi64), .val ((.int .i64))] [.val (.bool)] (l, x, ()) = rinN fuel l x := by kernel_rfl
theorem rinO : FOk Try.prog 103 rinS := fok (G := rinG) (fn := Try.f103) (A := rinA) (ctxOk (by kernel_rfl) (by kernel_rfl) trivial) Try.func103 (by kernel_rfl) (by kernel_rfl) fun z r _ h => (rin_ok _ _ r h).elim fun k hk => ⟨k, (rinE k z.1 z.2.1).trans hk⟩

def rargsG : Ctx := { ty := [(26, tySi64)], fns := [(103, rinS)], tips := [], n := 24, bxs := [], ptrs := [] }
def rargsA : Ann := ⟨[], [], [], []⟩
theorem rargsE (fuel : Nat) (o : Int) : fnRun rargsG rargsA fuel Try.f57 [.val ((.int .i64))] [.val ((.int .i64))] (o, ()) = rargsN o := by kernel_rfl
theorem rargsO : FOk Try.prog 57 rargsS := fok (G := rargsG) (fn := Try.f57) (A := rargsA) (ctxOk (by kernel_rfl) (by kernel_rfl) ⟨rinO, trivial⟩) Try.func57 (by kernel_rfl) (by kernel_rfl) fun z r _ h => ⟨0, (rargsE 0 z.1).trans ((rargs_eq _).trans h)⟩

def iargsG : Ctx := { ty := [], fns := [], tips := [], n := 26, bxs := [], ptrs := [] }
def iargsA : Ann := ⟨[], [(2, (11, [.val 4 (.bool) false]))], [], []⟩
theorem iargsE (fuel : Nat) (o : Int) : fnRun iargsG iargsA fuel Try.f120 [.val ((.int .i64))] [.val ((.int .i64))] (o, ()) = iargsN o := by kernel_rfl
theorem iargsO : FOk Try.prog 120 iargsS := fok (G := iargsG) (fn := Try.f120) (A := iargsA) (ctxOk (by kernel_rfl) (by kernel_rfl) trivial) Try.func120 (by kernel_rfl) (by kernel_rfl) fun z r _ h => ⟨0, (iargsE 0 z.1).trans ((iargs_eq _).trans h)⟩

def withinG : Ctx := { ty := [], fns := [], tips := [], n := 18, bxs := [], ptrs := [] }
def withinA : Ann := ⟨[], [], [], []⟩
theorem withinE (fuel : Nat) (n : Int) (c : Int) (a : Int) : fnRun withinG withinA fuel Try.f121 [.val ((.int .i64)), .val ((.int .i64)), .val ((.int .i64))] [.val (.bool)] (n, c, a, ()) = withinN n c a := by kernel_rfl
theorem withinO : FOk Try.prog 121 withinS := fok (G := withinG) (fn := Try.f121) (A := withinA) (ctxOk (by kernel_rfl) (by kernel_rfl) trivial) Try.func121 (by kernel_rfl) (by kernel_rfl) fun z r _ h => ⟨0, (withinE 0 z.1 z.2.1 z.2.2.1).trans ((within_eq _ _ _).trans h)⟩

def igoodG : Ctx := { ty := [(3, (.int .i64)), (41, tyTIns)], fns := [(120, iargsS), (121, withinS)], tips := [], n := 21, bxs := [1], ptrs := [] }
def igoodA : Ann := ⟨[], [], [], []⟩
theorem igoodE (fuel : Nat) (i : Ins) : fnRun igoodG igoodA fuel Try.f100 [.val (tyTIns)] [.val (.bool)] (i, ()) = igoodN i := by kernel_rfl
theorem igoodO : FOk Try.prog 100 igoodS := fok (G := igoodG) (fn := Try.f100) (A := igoodA) (ctxOk (by kernel_rfl) (by kernel_rfl) ⟨iargsO, withinO, trivial⟩) Try.func100 (by kernel_rfl) (by kernel_rfl) fun z r _ h => ⟨0, (igoodE 0 z.1).trans ((igood_eq _).trans h)⟩

def iputG : Ctx := { ty := [(3, (.int .i64)), (26, tySi64), (41, tyTIns), (46, tySu8)], fns := [(32, putS), (120, iargsS)], tips := [7, 26, 30], n := 31, bxs := [3], ptrs := [] }
def iputA : Ann := ⟨[(3, (4, [.val 0 (tySu8) true, .val 22 ((.int .i64)) false]))], [], [(2, [[], [], [0, 1], [0, 1], [], [0, 1, 2, 3, 4], [0, 1, 2, 3, 4], [0, 1, 2, 3, 4], [0, 1, 2, 3, 4], [], [], [0, 1, 2, 3, 4, 5, 6, 7, 8, 9, 10]])], []⟩
theorem iputE (fuel : Nat) (b : List Int) (i : Ins) : fnRun iputG iputA fuel Try.f95 [.tip (tySu8), .val (tyTIns)] [.tip (tySu8)] (b, i, ()) = iputN fuel b i := by kernel_rfl
theorem iputO : FOk Try.prog 95 iputS := fok (G := iputG) (fn := Try.f95) (A := iputA) (ctxOk (by kernel_rfl) (by kernel_rfl) ⟨putO, iargsO, trivial⟩) Try.func95 (by kernel_rfl) (by kernel_rfl) fun z r _ h => (iput_ok _ _ r h).elim fun k hk => ⟨k, (iputE k z.1 z.2.1).trans hk⟩

def igetG : Ctx := { ty := [(3, (.int .i64)), (41, tyTIns)], fns := [(59, getS), (120, iargsS)], tips := [], n := 22, bxs := [1000000, 2, 3], ptrs := [] }
def igetA : Ann := ⟨[], [], [], []⟩
theorem igetE (fuel : Nat) (r : List Int × Bool × Unit) : fnRun igetG igetA fuel Try.f108 [.box 124 ((.pair tySu8 (.pair .bool .unit)))] [.val (tyTIns)] (r, ()) = igetN r := by kernel_rfl
theorem igetO : FOk Try.prog 108 igetS := fok (G := igetG) (fn := Try.f108) (A := igetA) (ctxOk (by kernel_rfl) (by kernel_rfl) ⟨getO, iargsO, trivial⟩) Try.func108 (by kernel_rfl) (by kernel_rfl) fun z r _ h => ⟨0, (igetE 0 z.1).trans h⟩

def rinstrG : Ctx := { ty := [(3, (.int .i64)), (41, tyTIns)], fns := [(57, rargsS)], tips := [], n := 45, bxs := [1], ptrs := [] }
def rinstrA : Ann := ⟨[], [(2, (2, []))], [], []⟩
theorem rinstrE (fuel : Nat) (i : Ins) : fnRun rinstrG rinstrA fuel Try.f42 [.val (tyTIns)] [.val (.bool)] (i, ()) = rinstrN i := by kernel_rfl
theorem rinstrO : FOk Try.prog 42 rinstrS := fok (G := rinstrG) (fn := Try.f42) (A := rinstrA) (ctxOk (by kernel_rfl) (by kernel_rfl) ⟨rargsO, trivial⟩) Try.func42 (by kernel_rfl) (by kernel_rfl) fun z r _ h => ⟨0, (rinstrE 0 z.1).trans ((rinstr_eq _).trans h)⟩

def iwithinG : Ctx := { ty := [], fns := [], tips := [], n := 12, bxs := [], ptrs := [] }
def iwithinA : Ann := ⟨[], [], [], []⟩
theorem iwithinE (fuel : Nat) (n : Int) (m : Int) : fnRun iwithinG iwithinA fuel Try.f51 [.val ((.int .i64)), .val ((.int .i64))] [.val (.bool)] (n, m, ()) = iwithinN n m := by kernel_rfl
theorem iwithinO : FOk Try.prog 51 iwithinS := fok (G := iwithinG) (fn := Try.f51) (A := iwithinA) (ctxOk (by kernel_rfl) (by kernel_rfl) trivial) Try.func51 (by kernel_rfl) (by kernel_rfl) fun z r _ h => ⟨0, (iwithinE 0 z.1 z.2.1).trans ((iwithin_eq _ _).trans h)⟩

def itypG : Ctx := { ty := [(3, (.int .i64)), (35, tyTTp)], fns := [(51, iwithinS)], tips := [], n := 21, bxs := [1], ptrs := [] }
def itypA : Ann := ⟨[], [], [], []⟩
theorem itypE (fuel : Nat) (t : Tp) : fnRun itypG itypA fuel Try.f97 [.val (tyTTp)] [.val (.bool)] (t, ()) = itypN t := by kernel_rfl
theorem itypO : FOk Try.prog 97 itypS := fok (G := itypG) (fn := Try.f97) (A := itypA) (ctxOk (by kernel_rfl) (by kernel_rfl) ⟨iwithinO, trivial⟩) Try.func97 (by kernel_rfl) (by kernel_rfl) fun z r _ h => ⟨0, (itypE 0 z.1).trans ((ityp_eq _).trans h)⟩

def ityp1G : Ctx := { ty := [(35, tyTTp)], fns := [(97, itypS)], tips := [], n := 6, bxs := [1], ptrs := [] }
def ityp1A : Ann := ⟨[], [], [], []⟩
theorem ityp1E (fuel : Nat) (t : Tp) : fnRun ityp1G ityp1A fuel Try.f96 [.val (tyTTp)] [.val (.bool)] (t, ()) = ityp1N t := by kernel_rfl
theorem ityp1O : FOk Try.prog 96 ityp1S := fok (G := ityp1G) (fn := Try.f96) (A := ityp1A) (ctxOk (by kernel_rfl) (by kernel_rfl) ⟨itypO, trivial⟩) Try.func96 (by kernel_rfl) (by kernel_rfl) fun z r _ h => ⟨0, (ityp1E 0 z.1).trans ((ityp1_eq _).trans h)⟩

def indexTypesG : Ctx := { ty := [(23, tyStyTTp), (35, tyTTp)], fns := [(96, ityp1S)], tips := [], n := 19, bxs := [], ptrs := [] }
def indexTypesA : Ann := ⟨[(2, (5, [.val 8 ((.int .i64)) false]))], [], [], []⟩
theorem indexTypesE (fuel : Nat) (l : List Tp) (c : Unit) : fnRun indexTypesG indexTypesA fuel Try.f117 [.val (tyStyTTp), .val ((.clo 96 .unit))] [.val ((.int .i64))] (l, c, ()) = indexTypesN fuel l c := by kernel_rfl
theorem indexTypesO : FOk Try.prog 117 indexTypesS := fok (G := indexTypesG) (fn := Try.f117) (A := indexTypesA) (ctxOk (by kernel_rfl) (by kernel_rfl) ⟨ityp1O, trivial⟩) Try.func117 (by kernel_rfl) (by kernel_rfl) fun z r hl h => (indexTypes_eq _ _ hl).elim fun k hk => ⟨k, (indexTypesE k z.1 z.2.1).trans (hk.trans h)⟩

def containsTypesG : Ctx := { ty := [], fns := [(98000117, indexTypesS)], tips := [], n := 9, bxs := [], ptrs := [] }
def containsTypesA : Ann := ⟨[], [], [], []⟩
theorem containsTypesE (fuel : Nat) (l : List Tp) (c : Unit) : fnRun containsTypesG containsTypesA fuel Try.f88 [.val (tyStyTTp), .val ((.clo 96 .unit))] [.val (.bool)] (l, c, ()) = containsTypesN l c := by kernel_rfl
theorem containsTypesO : FOk Try.prog 88 containsTypesS := fok (G := containsTypesG) (fn := Try.f88) (A := containsTypesA) (ctxOk (by kernel_rfl) (by kernel_rfl) ⟨indexTypesO, trivial⟩) Try.func88 (by kernel_rfl) (by kernel_rfl) fun z r hl h => ⟨0, (containsTypesE 0 z.1 z.2.1).trans ((containsTypes_eq _ _ hl).trans h)⟩

def itypesG : Ctx := { ty := [(23, tyStyTTp)], fns := [(98000088, containsTypesS)], tips := [], n := 14, bxs := [], ptrs := [] }
def itypesA : Ann := ⟨[], [], [], []⟩
theorem itypesE (fuel : Nat) (l : List Tp) (m : Int) : fnRun itypesG itypesA fuel Try.f43 [.val (tyStyTTp), .val ((.int .i64))] [.val (.bool)] (l, m, ()) = itypesN l m := by kernel_rfl
theorem itypesO : FOk Try.prog 43 itypesS := fok (G := itypesG) (fn := Try.f43) (A := itypesA) (ctxOk (by kernel_rfl) (by kernel_rfl) ⟨containsTypesO, trivial⟩) Try.func43 (by kernel_rfl) (by kernel_rfl) fun z r _ h => ⟨0, (itypesE 0 z.1 z.2.1).trans ((itypes_eq _ _).trans h)⟩

def inum1G : Ctx := { ty := [(3, (.int .i64))], fns := [(51, iwithinS)], tips := [], n := 8, bxs := [], ptrs := [] }
def inum1A : Ann := ⟨[], [], [], []⟩
theorem inum1E (fuel : Nat) (n : Int) (m : Int) : fnRun inum1G inum1A fuel Try.f102 [.val ((.int .i64)), .cap ((.int .i64))] [.val (.bool)] (n, m, ()) = inum1N n m := by kernel_rfl
theorem inum1O : FOk Try.prog 102 inum1S := fok (G := inum1G) (fn := Try.f102) (A := inum1A) (ctxOk (by kernel_rfl) (by kernel_rfl) ⟨iwithinO, trivial⟩) Try.func102 (by kernel_rfl) (by kernel_rfl) fun z r _ h => ⟨0, (inum1E 0 z.1 z.2.1).trans ((inum1_eq _ _).trans h)⟩

def indexNumsG : Ctx := { ty := [(3, (.int .i64)), (26, tySi64)], fns := [(102, inum1S)], tips := [], n := 19, bxs := [], ptrs := [] }
def indexNumsA : Ann := ⟨[(2, (5, [.val 8 ((.int .i64)) false]))], [], [], []⟩
theorem indexNumsE (fuel : Nat) (l : List Int) (c : Int × Unit) : fnRun indexNumsG indexNumsA fuel Try.f122 [.val (tySi64), .val ((.clo 102 (.pair (.int .i64) .unit)))] [.val ((.int .i64))] (l, c, ()) = indexNumsN fuel l c := by kernel_rfl
theorem indexNumsO : FOk Try.prog 122 indexNumsS := fok (G := indexNumsG) (fn := Try.f122) (A := indexNumsA) (ctxOk (by kernel_rfl) (by kernel_rfl) ⟨inum1O, trivial⟩) Try.func122 (by kernel_rfl) (by kernel_rfl) fun z r hl h => (indexNums_eq _ _ hl).elim fun k hk => ⟨k, (indexNumsE k z.1 z.2.1).trans (hk.trans h)⟩

def containsNumsG : Ctx := { ty := [], fns := [(104000122, indexNumsS)], tips := [], n := 9, bxs := [], ptrs := [] }
def containsNumsA : Ann := ⟨[], [], [], []⟩
theorem containsNumsE (fuel : Nat) (l : List Int) (c : Int × Unit) : fnRun containsNumsG containsNumsA fuel Try.f101 [.val (tySi64), .val ((.clo 102 (.pair (.int .i64) .unit)))] [.val (.bool)] (l, c, ()) = containsNumsN l c := by kernel_rfl
theorem containsNumsO : FOk Try.prog 101 containsNumsS := fok (G := containsNumsG) (fn := Try.f101) (A := containsNumsA) (ctxOk (by kernel_rfl) (by kernel_rfl) ⟨indexNumsO, trivial⟩) Try.func101 (by kernel_rfl) (by kernel_rfl) fun z r hl h => ⟨0, (containsNumsE 0 z.1 z.2.1).trans ((containsNums_eq _ _ hl).trans h)⟩

def inumsG : Ctx := { ty := [(3, (.int .i64)), (26, tySi64)], fns := [(104000101, containsNumsS)], tips := [], n := 17, bxs := [5], ptrs := [] }
def inumsA : Ann := ⟨[], [], [], []⟩
theorem inumsE (fuel : Nat) (l : List Int) (c : Int) (m : Int) : fnRun inumsG inumsA fuel Try.f50 [.val (tySi64), .val ((.int .i64)), .val ((.int .i64))] [.val (.bool)] (l, c, m, ()) = inumsN l c m := by kernel_rfl
theorem inumsO : FOk Try.prog 50 inumsS := fok (G := inumsG) (fn := Try.f50) (A := inumsA) (ctxOk (by kernel_rfl) (by kernel_rfl) ⟨containsNumsO, trivial⟩) Try.func50 (by kernel_rfl) (by kernel_rfl) fun z r _ h => ⟨0, (inumsE 0 z.1 z.2.1 z.2.2.1).trans ((inums_eq _ _ _).trans h)⟩

def iclassG : Ctx := { ty := [(3, (.int .i64)), (23, tyStyTTp), (26, tySi64), (44, tyTCl)], fns := [(43, itypesS), (50, inumsS)], tips := [], n := 21, bxs := [1], ptrs := [] }
def iclassA : Ann := ⟨[], [], [], []⟩
theorem iclassE (fuel : Nat) (x : Cl) : fnRun iclassG iclassA fuel Try.f46 [.val (tyTCl)] [.val (.bool)] (x, ()) = iclassN x := by kernel_rfl
theorem iclassO : FOk Try.prog 46 iclassS := fok (G := iclassG) (fn := Try.f46) (A := iclassA) (ctxOk (by kernel_rfl) (by kernel_rfl) ⟨itypesO, inumsO, trivial⟩) Try.func46 (by kernel_rfl) (by kernel_rfl) fun z r _ h => ⟨0, (iclassE 0 z.1).trans ((iclass_eq _).trans h)⟩

def ifits1G : Ctx := { ty := [(44, tyTCl)], fns := [(46, iclassS)], tips := [], n := 6, bxs := [1], ptrs := [] }
def ifits1A : Ann := ⟨[], [], [], []⟩
theorem ifits1E (fuel : Nat) (x : Cl) : fnRun ifits1G ifits1A fuel Try.f45 [.val (tyTCl)] [.val (.bool)] (x, ()) = ifits1N x := by kernel_rfl
theorem ifits1O : FOk Try.prog 45 ifits1S := fok (G := ifits1G) (fn := Try.f45) (A := ifits1A) (ctxOk (by kernel_rfl) (by kernel_rfl) ⟨iclassO, trivial⟩) Try.func45 (by kernel_rfl) (by kernel_rfl) fun z r _ h => ⟨0, (ifits1E 0 z.1).trans ((ifits1_eq _).trans h)⟩

def indexClassG : Ctx := { ty := [(22, tyStyTCl), (44, tyTCl)], fns := [(45, ifits1S)], tips := [], n := 19, bxs := [], ptrs := [] }
def indexClassA : Ann := ⟨[(2, (5, [.val 8 ((.int .i64)) false]))], [], [], []⟩
theorem indexClassE (fuel : Nat) (l : List Cl) (c : Unit) : fnRun indexClassG indexClassA fuel Try.f98 [.val (tyStyTCl), .val ((.clo 45 .unit))] [.val ((.int .i64))] (l, c, ()) = indexClassN fuel l c := by kernel_rfl
theorem indexClassO : FOk Try.prog 98 indexClassS := fok (G := indexClassG) (fn := Try.f98) (A := indexClassA) (ctxOk (by kernel_rfl) (by kernel_rfl) ⟨ifits1O, trivial⟩) Try.func98 (by kernel_rfl) (by kernel_rfl) fun z r hl h => (indexClass_eq _ _ hl).elim fun k hk => ⟨k, (indexClassE k z.1 z.2.1).trans (hk.trans h)⟩

def containsClassG : Ctx := { ty := [], fns := [(47000098, indexClassS)], tips := [], n := 9, bxs := [], ptrs := [] }
def containsClassA : Ann := ⟨[], [], [], []⟩
theorem containsClassE (fuel : Nat) (l : List Cl) (c : Unit) : fnRun containsClassG containsClassA fuel Try.f44 [.val (tyStyTCl), .val ((.clo 45 .unit))] [.val (.bool)] (l, c, ()) = containsClassN l c := by kernel_rfl
theorem containsClassO : FOk Try.prog 44 containsClassS := fok (G := containsClassG) (fn := Try.f44) (A := containsClassA) (ctxOk (by kernel_rfl) (by kernel_rfl) ⟨indexClassO, trivial⟩) Try.func44 (by kernel_rfl) (by kernel_rfl) fun z r hl h => ⟨0, (containsClassE 0 z.1 z.2.1).trans ((containsClass_eq _ _ hl).trans h)⟩

def imethodG : Ctx := { ty := [(3, (.int .i64)), (23, tyStyTTp), (26, tySi64), (35, tyTTp), (36, tyStyTIns), (38, tyTMt), (41, tyTIns)], fns := [(43, itypesS), (50, inumsS), (51, iwithinS), (97, itypS), (100, igoodS)], tips := [], n := 51, bxs := [1, 4], ptrs := [] }
def imethodA : Ann := ⟨[(4, (5, [.val 30 ((.int .i64)) false]))], [], [], []⟩
theorem imethodE (fuel : Nat) (x : Mt) : fnRun imethodG imethodA fuel Try.f49 [.val (tyTMt)] [.val (.bool)] (x, ()) = imethodN fuel x := by kernel_rfl
theorem imethodO : FOk Try.prog 49 imethodS := fok (G := imethodG) (fn := Try.f49) (A := imethodA) (ctxOk (by kernel_rfl) (by kernel_rfl) ⟨itypesO, inumsO, iwithinO, itypO, igoodO, trivial⟩) Try.func49 (by kernel_rfl) (by kernel_rfl) fun z r _ h => (imethod_eq _).elim fun k hk => ⟨k, (imethodE k z.1).trans (hk.trans h)⟩

def ifits2G : Ctx := { ty := [(38, tyTMt)], fns := [(49, imethodS)], tips := [], n := 6, bxs := [1], ptrs := [] }
def ifits2A : Ann := ⟨[], [], [], []⟩
theorem ifits2E (fuel : Nat) (x : Mt) : fnRun ifits2G ifits2A fuel Try.f48 [.val (tyTMt)] [.val (.bool)] (x, ()) = ifits2N x := by kernel_rfl
theorem ifits2O : FOk Try.prog 48 ifits2S := fok (G := ifits2G) (fn := Try.f48) (A := ifits2A) (ctxOk (by kernel_rfl) (by kernel_rfl) ⟨imethodO, trivial⟩) Try.func48 (by kernel_rfl) (by kernel_rfl) fun z r _ h => ⟨0, (ifits2E 0 z.1).trans ((ifits2_eq _).trans h)⟩

def indexMethodG : Ctx := { ty := [(25, tyStyTMt), (38, tyTMt)], fns := [(48, ifits2S)], tips := [], n := 19, bxs := [], ptrs := [] }
def indexMethodA : Ann := ⟨[(2, (5, [.val 8 ((.int .i64)) false]))], [], [], []⟩
theorem indexMethodE (fuel : Nat) (l : List Mt) (c : Unit) : fnRun indexMethodG indexMethodA fuel Try.f99 [.val (tyStyTMt), .val ((.clo 48 .unit))] [.val ((.int .i64))] (l, c, ()) = indexMethodN fuel l c := by kernel_rfl
theorem indexMethodO : FOk Try.prog 99 indexMethodS := fok (G := indexMethodG) (fn := Try.f99) (A := indexMethodA) (ctxOk (by kernel_rfl) (by kernel_rfl) ⟨ifits2O, trivial⟩) Try.func99 (by kernel_rfl) (by kernel_rfl) fun z r hl h => (indexMethod_eq _ _ hl).elim fun k hk => ⟨k, (indexMethodE k z.1 z.2.1).trans (hk.trans h)⟩

def containsMethodG : Ctx := { ty := [], fns := [(50000099, indexMethodS)], tips := [], n := 9, bxs := [], ptrs := [] }
def containsMethodA : Ann := ⟨[], [], [], []⟩
theorem containsMethodE (fuel : Nat) (l : List Mt) (c : Unit) : fnRun containsMethodG containsMethodA fuel Try.f47 [.val (tyStyTMt), .val ((.clo 48 .unit))] [.val (.bool)] (l, c, ()) = containsMethodN l c := by kernel_rfl
theorem containsMethodO : FOk Try.prog 47 containsMethodS := fok (G := containsMethodG) (fn := Try.f47) (A := containsMethodA) (ctxOk (by kernel_rfl) (by kernel_rfl) ⟨indexMethodO, trivial⟩) Try.func47 (by kernel_rfl) (by kernel_rfl) fun z r hl h => ⟨0, (containsMethodE 0 z.1 z.2.1).trans ((containsMethod_eq _ _ hl).trans h)⟩

def sentry1G : Ctx := { ty := [(35, tyTTp)], fns := [], tips := [], n := 6, bxs := [1], ptrs := [] }
def sentry1A : Ann := ⟨[], [], [], []⟩
theorem sentry1E (fuel : Nat) (t : Tp) : fnRun sentry1G sentry1A fuel Try.f87 [.val (tyTTp)] [.val (.bool)] (t, ()) = sentry1N t := by kernel_rfl
theorem sentry1O : FOk Try.prog 87 sentry1S := fok (G := sentry1G) (fn := Try.f87) (A := sentry1A) (ctxOk (by kernel_rfl) (by kernel_rfl) trivial) Try.func87 (by kernel_rfl) (by kernel_rfl) fun z r _ h => ⟨0, (sentry1E 0 z.1).trans ((sentry1_eq _).trans h)⟩

def sentry2G : Ctx := { ty := [(35, tyTTp), (71, .any)], fns := [(87, sentry1S)], tips := [], n := 8, bxs := [2], ptrs := [] }
def sentry2A : Ann := ⟨[], [], [], []⟩
theorem sentry2E (fuel : Nat) (t : Tp) (f : Unit) : fnRun sentry2G sentry2A fuel Try.f89 [.val (tyTTp), .cap ((.clo 87 .unit))] [.val (.bool)] (t, f, ()) = sentry2N t f := by kernel_rfl
theorem sentry2O : FOk Try.prog 89 sentry2S := fok (G := sentry2G) (fn := Try.f89) (A := sentry2A) (ctxOk (by kernel_rfl) (by kernel_rfl) ⟨sentry1O, trivial⟩) Try.func89 (by kernel_rfl) (by kernel_rfl) fun z r _ h => ⟨0, (sentry2E 0 z.1 z.2.1).trans ((sentry2_eq _ _).trans h)⟩

def indexEntryG : Ctx := { ty := [(23, tyStyTTp), (35, tyTTp)], fns := [(89, sentry2S)], tips := [], n := 19, bxs := [], ptrs := [] }
def indexEntryA : Ann := ⟨[(2, (5, [.val 8 ((.int .i64)) false]))], [], [], []⟩
theorem indexEntryE (fuel : Nat) (l : List Tp) (c : Unit × Unit) : fnRun indexEntryG indexEntryA fuel Try.f117 [.val (tyStyTTp), .val ((.clo 89 (.pair (.clo 87 .unit) .unit)))] [.val ((.int .i64))] (l, c, ()) = indexEntryN fuel l c := by kernel_rfl
theorem indexEntryO : FOk Try.prog 117 indexEntryS := fok (G := indexEntryG) (fn := Try.f117) (A := indexEntryA) (ctxOk (by kernel_rfl) (by kernel_rfl) ⟨sentry2O, trivial⟩) Try.func117 (by kernel_rfl) (by kernel_rfl) fun z r hl h => (indexEntry_eq _ _ hl).elim fun k hk => ⟨k, (indexEntryE k z.1 z.2.1).trans (hk.trans h)⟩

def containsEntryG : Ctx := { ty := [], fns := [(91000117, indexEntryS)], tips := [], n := 9, bxs := [], ptrs := [] }
def containsEntryA : Ann := ⟨[], [], [], []⟩
theorem containsEntryE (fuel : Nat) (l : List Tp) (c : Unit × Unit) : fnRun containsEntryG containsEntryA fuel Try.f88 [.val (tyStyTTp), .val ((.clo 89 (.pair (.clo 87 .unit) .unit)))] [.val (.bool)] (l, c, ()) = containsEntryN l c := by kernel_rfl
theorem containsEntryO : FOk Try.prog 88 containsEntryS := fok (G := containsEntryG) (fn := Try.f88) (A := containsEntryA) (ctxOk (by kernel_rfl) (by kernel_rfl) ⟨indexEntryO, trivial⟩) Try.func88 (by kernel_rfl) (by kernel_rfl) fun z r hl h => ⟨0, (containsEntryE 0 z.1 z.2.1).trans ((containsEntry_eq _ _ hl).trans h)⟩

def clipByG : Ctx := { ty := [(46, tySu8)], fns := [], tips := [], n := 9, bxs := [], ptrs := [] }
def clipByA : Ann := ⟨[], [], [], []⟩
theorem clipByE (fuel : Nat) (s : List Int) : fnRun clipByG clipByA fuel Try.f37 [.val (tySu8)] [.val (tySu8)] (s, ()) = clipByN s := by kernel_rfl
theorem clipByO : FOk Try.prog 37 clipByS := fok (G := clipByG) (fn := Try.f37) (A := clipByA) (ctxOk (by kernel_rfl) (by kernel_rfl) trivial) Try.func37 (by kernel_rfl) (by kernel_rfl) fun z r _ h => ⟨0, (clipByE 0 z.1).trans ((clipBy_eq _).trans h)⟩

def clipCG : Ctx := { ty := [(22, tyStyTCl)], fns := [], tips := [], n := 9, bxs := [], ptrs := [] }
def clipCA : Ann := ⟨[], [], [], []⟩
theorem clipCE (fuel : Nat) (s : List Cl) : fnRun clipCG clipCA fuel Try.f71 [.val (tyStyTCl)] [.val (tyStyTCl)] (s, ()) = clipCN s := by kernel_rfl
theorem clipCO : FOk Try.prog 71 clipCS := fok (G := clipCG) (fn := Try.f71) (A := clipCA) (ctxOk (by kernel_rfl) (by kernel_rfl) trivial) Try.func71 (by kernel_rfl) (by kernel_rfl) fun z r _ h => ⟨0, (clipCE 0 z.1).trans ((clipC_eq _).trans h)⟩

def clipMG : Ctx := { ty := [(25, tyStyTMt)], fns := [], tips := [], n := 9, bxs := [], ptrs := [] }
def clipMA : Ann := ⟨[], [], [], []⟩
theorem clipME (fuel : Nat) (s : List Mt) : fnRun clipMG clipMA fuel Try.f72 [.val (tyStyTMt)] [.val (tyStyTMt)] (s, ()) = clipMN s := by kernel_rfl
theorem clipMO : FOk Try.prog 72 clipMS := fok (G := clipMG) (fn := Try.f72) (A := clipMA) (ctxOk (by kernel_rfl) (by kernel_rfl) trivial) Try.func72 (by kernel_rfl) (by kernel_rfl) fun z r _ h => ⟨0, (clipME 0 z.1).trans ((clipM_eq _).trans h)⟩

def clipTG : Ctx := { ty := [(23, tyStyTTp)], fns := [], tips := [], n := 9, bxs := [], ptrs := [] }
def clipTA : Ann := ⟨[], [], [], []⟩
theorem clipTE (fuel : Nat) (s : List Tp) : fnRun clipTG clipTA fuel Try.f106 [.val (tyStyTTp)] [.val (tyStyTTp)] (s, ()) = clipTN s := by kernel_rfl
theorem clipTO : FOk Try.prog 106 clipTS := fok (G := clipTG) (fn := Try.f106) (A := clipTA) (ctxOk (by kernel_rfl) (by kernel_rfl) trivial) Try.func106 (by kernel_rfl) (by kernel_rfl) fun z r _ h => ⟨0, (clipTE 0 z.1).trans ((clipT_eq _).trans h)⟩

def clipIG : Ctx := { ty := [(26, tySi64)], fns := [], tips := [], n := 9, bxs := [], ptrs := [] }
def clipIA : Ann := ⟨[], [], [], []⟩
theorem clipIE (fuel : Nat) (s : List Int) : fnRun clipIG clipIA fuel Try.f107 [.val (tySi64)] [.val (tySi64)] (s, ()) = clipIN s := by kernel_rfl
theorem clipIO : FOk Try.prog 107 clipIS := fok (G := clipIG) (fn := Try.f107) (A := clipIA) (ctxOk (by kernel_rfl) (by kernel_rfl) trivial) Try.func107 (by kernel_rfl) (by kernel_rfl) fun z r _ h => ⟨0, (clipIE 0 z.1).trans ((clipI_eq _).trans h)⟩

def clipXG : Ctx := { ty := [(36, tyStyTIns)], fns := [], tips := [], n := 9, bxs := [], ptrs := [] }
def clipXA : Ann := ⟨[], [], [], []⟩
theorem clipXE (fuel : Nat) (s : List Ins) : fnRun clipXG clipXA fuel Try.f109 [.val (tyStyTIns)] [.val (tyStyTIns)] (s, ()) = clipXN s := by kernel_rfl
theorem clipXO : FOk Try.prog 109 clipXS := fok (G := clipXG) (fn := Try.f109) (A := clipXA) (ctxOk (by kernel_rfl) (by kernel_rfl) trivial) Try.func109 (by kernel_rfl) (by kernel_rfl) fun z r _ h => ⟨0, (clipXE 0 z.1).trans ((clipX_eq _).trans h)⟩

def clipJG : Ctx := { ty := [(24, tySi32)], fns := [], tips := [], n := 9, bxs := [], ptrs := [] }
def clipJA : Ann := ⟨[], [], [], []⟩
theorem clipJE (fuel : Nat) (s : List Int) : fnRun clipJG clipJA fuel Try.f111 [.val (tySi32)] [.val (tySi32)] (s, ()) = clipJN s := by kernel_rfl
theorem clipJO : FOk Try.prog 111 clipJS := fok (G := clipJG) (fn := Try.f111) (A := clipJA) (ctxOk (by kernel_rfl) (by kernel_rfl) trivial) Try.func111 (by kernel_rfl) (by kernel_rfl) fun z r _ h => ⟨0, (clipJE 0 z.1).trans ((clipJ_eq _).trans h)⟩

def cloneTG : Ctx := { ty := [(23, tyStyTTp)], fns := [], tips := [], n := 8, bxs := [], ptrs := [] }
def cloneTA : Ann := ⟨[], [], [], []⟩
def cloneTS0 : FSpec := ⟨[.full (tyStyTTp) false], [.val (tyStyTTp)], fun _ => some (([] : List Tp), ())⟩
def cloneTS1 : FSpec := ⟨[.full (tyStyTTp) true], [.val (tyStyTTp)], fun z => cloneTN z.1⟩
theorem cloneTE0 (fuel : Nat) (s : List Tp) : fnRun cloneTG cloneTA fuel Try.f110 [.full (tyStyTTp) false] [.val (tyStyTTp)] (s, ()) = cloneTS0.run (s, ()) := by kernel_rfl
theorem cloneTO0 : FOk Try.prog 110 cloneTS0 := fok (G := cloneTG) (fn := Try.f110) (A := cloneTA) (ctxOk (by kernel_rfl) (by kernel_rfl) trivial) Try.func110 (by kernel_rfl) (by kernel_rfl) fun z r _ h => ⟨0, (cloneTE0 0 z.1).trans h⟩
theorem cloneTE1 (fuel : Nat) (s : List Tp) : fnRun cloneTG cloneTA fuel Try.f110 [.full (tyStyTTp) true] [.val (tyStyTTp)] (s, ()) = cloneTS1.run (s, ()) := by kernel_rfl
theorem cloneTO1 : FOk Try.prog 110 cloneTS1 := fok (G := cloneTG) (fn := Try.f110) (A := cloneTA) (ctxOk (by kernel_rfl) (by kernel_rfl) trivial) Try.func110 (by kernel_rfl) (by kernel_rfl) fun z r _ h => ⟨0, (cloneTE1 0 z.1).trans h⟩
theorem cloneTO : FOk Try.prog 110 cloneTS := FOk.split _ cloneTO1 cloneTO0 (fun _ h => h)

def cloneJG : Ctx := { ty := [(24, tySi32)], fns := [], tips := [], n := 8, bxs := [], ptrs := [] }
def cloneJA : Ann := ⟨[], [], [], []⟩
def cloneJS0 : FSpec := ⟨[.full (tySi32) false], [.val (tySi32)], fun _ => some (([] : List Int), ())⟩
def cloneJS1 : FSpec := ⟨[.full (tySi32) true], [.val (tySi32)], fun z => cloneJN z.1⟩
theorem cloneJE0 (fuel : Nat) (s : List Int) : fnRun cloneJG cloneJA fuel Try.f112 [.full (tySi32) false] [.val (tySi32)] (s, ()) = cloneJS0.run (s, ()) := by kernel_rfl
theorem cloneJO0 : FOk Try.prog 112 cloneJS0 := fok (G := cloneJG) (fn := Try.f112) (A := cloneJA) (ctxOk (by kernel_rfl) (by kernel_rfl) trivial) Try.func112 (by kernel_rfl) (by kernel_rfl) fun z r _ h => ⟨0, (cloneJE0 0 z.1).trans h⟩
theorem cloneJE1 (fuel : Nat) (s : List Int) : fnRun cloneJG cloneJA fuel Try.f112 [.full (tySi32) true] [.val (tySi32)] (s, ()) = cloneJS1.run (s, ()) := by kernel_rfl
theorem cloneJO1 : FOk Try.prog 112 cloneJS1 := fok (G := cloneJG) (fn := Try.f112) (A := cloneJA) (ctxOk (by kernel_rfl) (by kernel_rfl) trivial) Try.func112 (by kernel_rfl) (by kernel_rfl) fun z r _ h => ⟨0, (cloneJE1 0 z.1).trans h⟩
theorem cloneJO : FOk Try.prog 112 cloneJS := FOk.split _ cloneJO1 cloneJO0 (fun _ h => h)

def cloneIG : Ctx := { ty := [(26, tySi64)], fns := [], tips := [], n := 8, bxs := [], ptrs := [] }
def cloneIA : Ann := ⟨[], [], [], []⟩
def cloneIS0 : FSpec := ⟨[.full (tySi64) false], [.val (tySi64)], fun _ => some (([] : List Int), ())⟩
def cloneIS1 : FSpec := ⟨[.full (tySi64) true], [.val (tySi64)], fun z => cloneIN z.1⟩
theorem cloneIE0 (fuel : Nat) (s : List Int) : fnRun cloneIG cloneIA fuel Try.f113 [.full (tySi64) false] [.val (tySi64)] (s, ()) = cloneIS0.run (s, ()) := by kernel_rfl
theorem cloneIO0 : FOk Try.prog 113 cloneIS0 := fok (G := cloneIG) (fn := Try.f113) (A := cloneIA) (ctxOk (by kernel_rfl) (by kernel_rfl) trivial) Try.func113 (by kernel_rfl) (by kernel_rfl) fun z r _ h => ⟨0, (cloneIE0 0 z.1).trans h⟩
theorem cloneIE1 (fuel : Nat) (s : List Int) : fnRun cloneIG cloneIA fuel Try.f113 [.full (tySi64) true] [.val (tySi64)] (s, ()) = cloneIS1.run (s, ()) := by kernel_rfl
theorem cloneIO1 : FOk Try.prog 113 cloneIS1 := fok (G := cloneIG) (fn := Try.f113) (A := cloneIA) (ctxOk (by kernel_rfl) (by kernel_rfl) trivial) Try.func113 (by kernel_rfl) (by kernel_rfl) fun z r _ h => ⟨0, (cloneIE1 0 z.1).trans h⟩
theorem cloneIO : FOk Try.prog 113 cloneIS := FOk.split _ cloneIO1 cloneIO0 (fun _ h => h)

def cloneXG : Ctx := { ty := [(36, tyStyTIns)], fns := [], tips := [], n := 8, bxs := [], ptrs := [] }
def cloneXA : Ann := ⟨[], [], [], []⟩
def cloneXS0 : FSpec := ⟨[.full (tyStyTIns) false], [.val (tyStyTIns)], fun _ => some (([] : List Ins), ())⟩
def cloneXS1 : FSpec := ⟨[.full (tyStyTIns) true], [.val (tyStyTIns)], fun z => cloneXN z.1⟩
theorem cloneXE0 (fuel : Nat) (s : List Ins) : fnRun cloneXG cloneXA fuel Try.f114 [.full (tyStyTIns) false] [.val (tyStyTIns)] (s, ()) = cloneXS0.run (s, ()) := by kernel_rfl
theorem cloneXO0 : FOk Try.prog 114 cloneXS0 := fok (G := cloneXG) (fn := Try.f114) (A := cloneXA) (ctxOk (by kernel_rfl) (by kernel_rfl) trivial) Try.func114 (by kernel_rfl) (by kernel_rfl) fun z r _ h => ⟨0, (cloneXE0 0 z.1).trans h⟩
theorem cloneXE1 (fuel : Nat) (s : List Ins) : fnRun cloneXG cloneXA fuel Try.f114 [.full (tyStyTIns) true] [.val (tyStyTIns)] (s, ()) = cloneXS1.run (s, ()) := by kernel_rfl
theorem cloneXO1 : FOk Try.prog 114 cloneXS1 := fok (G := cloneXG) (fn := Try.f114) (A := cloneXA) (ctxOk (by kernel_rfl) (by kernel_rfl) trivial) Try.func114 (by kernel_rfl) (by kernel_rfl) fun z r _ h => ⟨0, (cloneXE1 0 z.1).trans h⟩
theorem cloneXO : FOk Try.prog 114 cloneXS := FOk.split _ cloneXO1 cloneXO0 (fun _ h => h)

def anTG : Ctx := { ty := [(23, tyStyTTp)], fns := [(106, clipTS), (110, cloneTS)], tips := [], n := 6, bxs := [], ptrs := [] }
def anTA : Ann := ⟨[], [], [], []⟩
theorem anTE (fuel : Nat) (s : List Tp) : fnRun anTG anTA fuel Try.f67 [.val (tyStyTTp)] [.val (tyStyTTp)] (s, ()) = anTN s := by kernel_rfl
theorem anTO : FOk Try.prog 67 anTS := fok (G := anTG) (fn := Try.f67) (A := anTA) (ctxOk (by kernel_rfl) (by kernel_rfl) ⟨clipTO, cloneTO, trivial⟩) Try.func67 (by kernel_rfl) (by kernel_rfl) fun z r _ h => ⟨0, (anTE 0 z.1).trans h⟩

def anJG : Ctx := { ty := [(24, tySi32)], fns := [(111, clipJS), (112, cloneJS)], tips := [], n := 6, bxs := [], ptrs := [] }
def anJA : Ann := ⟨[], [], [], []⟩
theorem anJE (fuel : Nat) (s : List Int) : fnRun anJG anJA fuel Try.f68 [.val (tySi32)] [.val (tySi32)] (s, ()) = anJN s := by kernel_rfl
theorem anJO : FOk Try.prog 68 anJS := fok (G := anJG) (fn := Try.f68) (A := anJA) (ctxOk (by kernel_rfl) (by kernel_rfl) ⟨clipJO, cloneJO, trivial⟩) Try.func68 (by kernel_rfl) (by kernel_rfl) fun z r _ h => ⟨0, (anJE 0 z.1).trans h⟩

def anIG : Ctx := { ty := [(26, tySi64)], fns := [(107, clipIS), (113, cloneIS)], tips := [], n := 6, bxs := [], ptrs := [] }
def anIA : Ann := ⟨[], [], [], []⟩
theorem anIE (fuel : Nat) (s : List Int) : fnRun anIG anIA fuel Try.f69 [.val (tySi64)] [.val (tySi64)] (s, ()) = anIN s := by kernel_rfl
theorem anIO : FOk Try.prog 69 anIS := fok (G := anIG) (fn := Try.f69) (A := anIA) (ctxOk (by kernel_rfl) (by kernel_rfl) ⟨clipIO, cloneIO, trivial⟩) Try.func69 (by kernel_rfl) (by kernel_rfl) fun z r _ h => ⟨0, (anIE 0 z.1).trans h⟩

def anXG : Ctx := { ty := [(36, tyStyTIns)], fns := [(109, clipXS), (114, cloneXS)], tips := [], n := 6, bxs := [], ptrs := [] }
def anXA : Ann := ⟨[], [], [], []⟩
theorem anXE (fuel : Nat) (s : List Ins) : fnRun anXG anXA fuel Try.f70 [.val (tyStyTIns)] [.val (tyStyTIns)] (s, ()) = anXN s := by kernel_rfl
theorem anXO : FOk Try.prog 70 anXS := fok (G := anXG) (fn := Try.f70) (A := anXA) (ctxOk (by kernel_rfl) (by kernel_rfl) ⟨clipXO, cloneXO, trivial⟩) Try.func70 (by kernel_rfl) (by kernel_rfl) fun z r _ h => ⟨0, (anXE 0 z.1).trans h⟩

def eqTG : Ctx := { ty := [(23, tyStyTTp), (35, tyTTp)], fns := [], tips := [], n := 26, bxs := [], ptrs := [] }
def eqTA : Ann := ⟨[(4, (5, [.val 13 ((.int .i64)) false]))], [], [(6, [[], [0], [], [], [0, 1, 2, 3], [0, 1, 2, 3, 4], [0, 1, 2, 3], [0, 1, 2, 3], []])], []⟩
theorem eqTE (fuel : Nat) (a : List Tp) (b : List Tp) : fnRun eqTG eqTA fuel Try.f77 [.val (tyStyTTp), .val (tyStyTTp)] [.val (.bool)] (a, b, ()) = eqTN fuel a b := by kernel_rfl
theorem eqTO : FOk Try.prog 77 eqTS := fok (G := eqTG) (fn := Try.f77) (A := eqTA) (ctxOk (by kernel_rfl) (by kernel_rfl) trivial) Try.func77 (by kernel_rfl) (by kernel_rfl) fun z r hl h => (eqT_eq _ _ hl).elim fun k hk => ⟨k, (eqTE k z.1 z.2.1).trans (hk.trans h)⟩

def eqJG : Ctx := { ty := [(21, (.int .i32)), (24, tySi32)], fns := [], tips := [], n := 26, bxs := [], ptrs := [] }
def eqJA : Ann := ⟨[(4, (5, [.val 13 ((.int .i64)) false]))], [], [(6, [[], [0], [], [], [0, 1, 2, 3], [0, 1, 2, 3, 4], [0, 1, 2, 3], [0, 1, 2, 3], []])], []⟩
theorem eqJE (fuel : Nat) (a : List Int) (b : List Int) : fnRun eqJG eqJA fuel Try.f78 [.val (tySi32), .val (tySi32)] [.val (.bool)] (a, b, ()) = eqJN fuel a b := by kernel_rfl
theorem eqJO : FOk Try.prog 78 eqJS := fok (G := eqJG) (fn := Try.f78) (A := eqJA) (ctxOk (by kernel_rfl) (by kernel_rfl) trivial) Try.func78 (by kernel_rfl) (by kernel_rfl) fun z r hl h => (eqJ_eq _ _ hl).elim fun k hk => ⟨k, (eqJE k z.1 z.2.1).trans (hk.trans h)⟩

def eqIG : Ctx := { ty := [(3, (.int .i64)), (26, tySi64)], fns := [], tips := [], n := 26, bxs := [], ptrs := [] }
def eqIA : Ann := ⟨[(4, (5, [.val 13 ((.int .i64)) false]))], [], [(6, [[], [0], [], [], [0, 1, 2, 3], [0, 1, 2, 3, 4], [0, 1, 2, 3], [0, 1, 2, 3], []])], []⟩
theorem eqIE (fuel : Nat) (a : List Int) (b : List Int) : fnRun eqIG eqIA fuel Try.f79 [.val (tySi64), .val (tySi64)] [.val (.bool)] (a, b, ()) = eqIN fuel a b := by kernel_rfl
theorem eqIO : FOk Try.prog 79 eqIS := fok (G := eqIG) (fn := Try.f79) (A := eqIA) (ctxOk (by kernel_rfl) (by kernel_rfl) trivial) Try.func79 (by kernel_rfl) (by kernel_rfl) fun z r hl h => (eqI_eq _ _ hl).elim fun k hk => ⟨k, (eqIE k z.1 z.2.1).trans (hk.trans h)⟩

def eqXG : Ctx := { ty := [(36, tyStyTIns), (41, tyTIns)], fns := [], tips := [], n := 26, bxs := [], ptrs := [] }
def eqXA : Ann := ⟨[(4, (5, [.val 13 ((.int .i64)) false]))], [], [(6, [[], [0], [], [], [0, 1, 2, 3], [0, 1, 2, 3, 4], [0, 1, 2, 3], [0, 1, 2, 3], []])], []⟩
theorem eqXE (fuel : Nat) (a : List Ins) (b : List Ins) : fnRun eqXG eqXA fuel Try.f115 [.val (tyStyTIns), .val (tyStyTIns)] [.val (.bool)] (a, b, ()) = eqXN fuel a b := by kernel_rfl
theorem eqXO : FOk Try.prog 115 eqXS := fok (G := eqXG) (fn := Try.f115) (A := eqXA) (ctxOk (by kernel_rfl) (by kernel_rfl) trivial) Try.func115 (by kernel_rfl) (by kernel_rfl) fun z r hl h => (eqX_eq _ _ hl).elim fun k hk => ⟨k, (eqXE k z.1 z.2.1).trans (hk.trans h)⟩

def ifitsG : Ctx := { ty := [(3, (.int .i64)), (22, tyStyTCl), (23, tyStyTTp), (24, tySi32), (25, tyStyTMt), (26, tySi64), (28, tyTIm)], fns := [(43, itypesS), (50, inumsS), (51, iwithinS), (47000044, containsClassS), (50000047, containsMethodS)], tips := [], n := 46, bxs := [1], ptrs := [] }
def ifitsA : Ann := ⟨[], [], [], []⟩
theorem ifitsE (fuel : Nat) (m : Im) : fnRun ifitsG ifitsA fuel Try.f19 [.val (tyTIm)] [.val (.bool)] (m, ()) = ifitsN m := by kernel_rfl
theorem ifitsO : FOk Try.prog 19 ifitsS := fok (G := ifitsG) (fn := Try.f19) (A := ifitsA) (ctxOk (by kernel_rfl) (by kernel_rfl) ⟨itypesO, inumsO, iwithinO, containsClassO, containsMethodO, trivial⟩) Try.func19 (by kernel_rfl) (by kernel_rfl) fun z r _ h => ⟨0, (ifitsE 0 z.1).trans ((ifits_eq _).trans h)⟩

def putTypeG : Ctx := { ty := [(3, (.int .i64)), (35, tyTTp), (46, tySu8)], fns := [(32, putS)], tips := [5, 12, 16], n := 17, bxs := [3], ptrs := [] }
def putTypeA : Ann := ⟨[], [], [], []⟩
theorem putTypeE (fuel : Nat) (b : List Int) (t : Tp) : fnRun putTypeG putTypeA fuel Try.f94 [.tip (tySu8), .val (tyTTp)] [.tip (tySu8)] (b, t, ()) = putTypeN b t := by kernel_rfl
theorem putTypeO : FOk Try.prog 94 putTypeS := fok (G := putTypeG) (fn := Try.f94) (A := putTypeA) (ctxOk (by kernel_rfl) (by kernel_rfl) ⟨putO, trivial⟩) Try.func94 (by kernel_rfl) (by kernel_rfl) fun z r _ h => ⟨0, (putTypeE 0 z.1 z.2.1).trans (putType_ok _ _ r h)⟩

def putTypesG : Ctx := { ty := [(23, tyStyTTp), (35, tyTTp), (46, tySu8)], fns := [(32, putS), (94, putTypeS)], tips := [7, 17, 21], n := 22, bxs := [6], ptrs := [] }
def putTypesA : Ann := ⟨[(3, (4, [.val 0 (tySu8) true, .val 13 ((.int .i64)) false]))], [], [], []⟩
theorem putTypesE (fuel : Nat) (b : List Int) (l : List Tp) : fnRun putTypesG putTypesA fuel Try.f34 [.tip (tySu8), .val (tyStyTTp)] [.tip (tySu8)] (b, l, ()) = putTypesN fuel b l := by kernel_rfl
theorem putTypesO : FOk Try.prog 34 putTypesS := fok (G := putTypesG) (fn := Try.f34) (A := putTypesA) (ctxOk (by kernel_rfl) (by kernel_rfl) ⟨putO, putTypeO, trivial⟩) Try.func34 (by kernel_rfl) (by kernel_rfl) fun z r _ h => (putTypes_ok _ _ r h).elim fun k hk => ⟨k, (putTypesE k z.1 z.2.1).trans hk⟩

def putNumsG : Ctx := { ty := [(3, (.int .i64)), (26, tySi64), (46, tySu8)], fns := [(32, putS)], tips := [7, 17, 21], n := 22, bxs := [], ptrs := [] }
def putNumsA : Ann := ⟨[(3, (4, [.val 0 (tySu8) true, .val 13 ((.int .i64)) false]))], [], [], []⟩
theorem putNumsE (fuel : Nat) (b : List Int) (l : List Int) : fnRun putNumsG putNumsA fuel Try.f33 [.tip (tySu8), .val (tySi64)] [.tip (tySu8)] (b, l, ()) = putNumsN fuel b l := by kernel_rfl
theorem putNumsO : FOk Try.prog 33 putNumsS := fok (G := putNumsG) (fn := Try.f33) (A := putNumsA) (ctxOk (by kernel_rfl) (by kernel_rfl) ⟨putO, trivial⟩) Try.func33 (by kernel_rfl) (by kernel_rfl) fun z r _ h => (putNums_ok _ _ r h).elim fun k hk => ⟨k, (putNumsE k z.1 z.2.1).trans hk⟩

def putMethodG : Ctx := { ty := [(3, (.int .i64)), (23, tyStyTTp), (26, tySi64), (35, tyTTp), (36, tyStyTIns), (38, tyTMt), (41, tyTIns), (46, tySu8)], fns := [(32, putS), (33, putNumsS), (34, putTypesS), (94, putTypeS), (95, iputS)], tips := [7, 17, 29, 33], n := 43, bxs := [3, 6], ptrs := [] }
def putMethodA : Ann := ⟨[(4, (4, [.val 0 (tySu8) true, .val 25 ((.int .i64)) false]))], [], [(1, [[], [0], [0], [], [0, 1, 2, 3], [0, 1, 2, 3], [], [0, 1, 2, 3, 4, 5, 6], [0, 1, 2, 3, 4, 5, 6], [], []]), (8, [[], [0], [0], [], [0, 1, 2, 3], [0, 1, 2, 3], [], [0, 1, 2, 3, 4, 5, 6], [0, 1, 2, 3, 4, 5, 6], [], []])], []⟩
theorem putMethodE (fuel : Nat) (b : List Int) (x : Mt) : fnRun putMethodG putMethodA fuel Try.f36 [.tip (tySu8), .val (tyTMt)] [.tip (tySu8)] (b, x, ()) = putMethodN fuel b x := by kernel_rfl
theorem putMethodO : FOk Try.prog 36 putMethodS := fok (G := putMethodG) (fn := Try.f36) (A := putMethodA) (ctxOk (by kernel_rfl) (by kernel_rfl) ⟨putO, putNumsO, putTypesO, putTypeO, iputO, trivial⟩) Try.func36 (by kernel_rfl) (by kernel_rfl) fun z r _ h => (putMethod_ok _ _ r h).elim fun k hk => ⟨k, (putMethodE k z.1 z.2.1).trans hk⟩

def iencodeG : Ctx := { ty := [(3, (.int .i64)), (21, (.int .i32)), (22, tyStyTCl), (23, tyStyTTp), (24, tySi32), (25, tyStyTMt), (26, tySi64), (28, tyTIm), (38, tyTMt), (44, tyTCl), (46, tySu8)], fns := [(19, ifitsS), (32, putS), (33, putNumsS), (34, putTypesS), (35, longS), (36, putMethodS), (37, clipByS)], tips := [27, 39, 54, 58, 70, 74], n := 89, bxs := [1, 6, 10], ptrs := [] }
def iencodeA : Ann := ⟨[(5, (4, [.val 4 (tySu8) true, .val 23 ((.int .i64)) false])), (11, (4, [.val 4 (tySu8) true, .val 50 ((.int .i64)) false])), (17, (4, [.val 4 (tySu8) true, .val 66 ((.int .i64)) false]))], [], [(7, [[], [0], [0], [0], [], [0, 1, 2, 3, 4], [0, 1, 2, 3, 4], [], [0, 1, 2, 3, 4, 5, 6, 7], [0, 1, 2, 3, 4, 5, 6, 7], [], []]), (9, [[], [0], [0], [], [0, 1, 2, 3], [0, 1, 2, 3], [0, 1, 2, 3], [], []]), (21, [[], [0], [0], [], [0, 1, 2, 3], [0, 1, 2, 3], [], [0, 1, 2, 3, 4, 5, 6], [0, 1, 2, 3, 4, 5, 6], [], []])], []⟩
theorem iencodeE (fuel : Nat) (m : Im) : fnRun iencodeG iencodeA fuel Try.f17 [.val (tyTIm)] [.val (tySu8), .val ((.int .i64))] (m, ()) = iencodeN fuel m := by kernel_rfl
theorem iencodeO : FOk Try.prog 17 iencodeS := fok (G := iencodeG) (fn := Try.f17) (A := iencodeA) (ctxOk (by kernel_rfl) (by kernel_rfl) ⟨ifitsO, putO, putNumsO, putTypesO, longO, putMethodO, clipByO, trivial⟩) Try.func17 (by kernel_rfl) (by kernel_rfl) fun z r _ h => (iencode_ok _ r h).elim fun k hk => ⟨k, (iencodeE k z.1).trans hk⟩

def getTypeG : Ctx := { ty := [(3, (.int .i64)), (35, tyTTp)], fns := [(59, getS)], tips := [], n := 14, bxs := [1000000, 2, 3], ptrs := [] }
def getTypeA : Ann := ⟨[], [], [], []⟩
theorem getTypeE (fuel : Nat) (r : List Int × Bool × Unit) : fnRun getTypeG getTypeA fuel Try.f105 [.box 124 ((.pair tySu8 (.pair .bool .unit)))] [.val (tyTTp)] (r, ()) = getTypeN r := by kernel_rfl
theorem getTypeO : FOk Try.prog 105 getTypeS := fok (G := getTypeG) (fn := Try.f105) (A := getTypeA) (ctxOk (by kernel_rfl) (by kernel_rfl) ⟨getO, trivial⟩) Try.func105 (by kernel_rfl) (by kernel_rfl) fun z r _ h => ⟨0, (getTypeE 0 z.1).trans (getType_ok _ r h)⟩

def getTypesG : Ctx := { ty := [(23, tyStyTTp)], fns := [(59, getS), (105, getTypeS), (106, clipTS)], tips := [11], n := 19, bxs := [1000000], ptrs := [] }
def getTypesA : Ann := ⟨[(3, (3, [.val 5 (tyStyTTp) true, .val 9 ((.int .i64)) false, .box 1000000 124 [(tySu8, false), (.bool, false)]]))], [], [], []⟩
theorem getTypesE (fuel : Nat) (r : List Int × Bool × Unit) (m : Int) : fnRun getTypesG getTypesA fuel Try.f60 [.box 124 ((.pair tySu8 (.pair .bool .unit))), .val ((.int .i64))] [.val (tyStyTTp)] (r, m, ()) = getTypesN fuel r m := by kernel_rfl
theorem getTypesO : FOk Try.prog 60 getTypesS := fok (G := getTypesG) (fn := Try.f60) (A := getTypesA) (ctxOk (by kernel_rfl) (by kernel_rfl) ⟨getO, getTypeO, clipTO, trivial⟩) Try.func60 (by kernel_rfl) (by kernel_rfl) fun z r _ h => (getTypes_ok _ _ r h).elim fun k hk => ⟨k, (getTypesE k z.1 z.2.1).trans hk⟩

def getNumsG : Ctx := { ty := [(26, tySi64)], fns := [(59, getS), (107, clipIS)], tips := [13], n := 22, bxs := [1000000], ptrs := [] }
def getNumsA : Ann := ⟨[(3, (3, [.val 7 (tySi64) true, .val 11 ((.int .i64)) false, .box 1000000 124 [(tySu8, false), (.bool, false)]]))], [], [], []⟩
theorem getNumsE (fuel : Nat) (r : List Int × Bool × Unit) (c : Int) (m : Int) : fnRun getNumsG getNumsA fuel Try.f61 [.box 124 ((.pair tySu8 (.pair .bool .unit))), .val ((.int .i64)), .val ((.int .i64))] [.val (tySi64)] (r, c, m, ()) = getNumsN fuel r c m := by kernel_rfl
theorem getNumsO : FOk Try.prog 61 getNumsS := fok (G := getNumsG) (fn := Try.f61) (A := getNumsA) (ctxOk (by kernel_rfl) (by kernel_rfl) ⟨getO, clipIO, trivial⟩) Try.func61 (by kernel_rfl) (by kernel_rfl) fun z r _ h => (getNums_ok _ _ _ r h).elim fun k hk => ⟨k, (getNumsE k z.1 z.2.1 z.2.2.1).trans hk⟩

def getMethodG : Ctx := { ty := [(3, (.int .i64)), (26, tySi64), (36, tyStyTIns), (38, tyTMt)], fns := [(59, getS), (60, getTypesS), (61, getNumsS), (105, getTypeS), (108, igetS), (109, clipXS)], tips := [16], n := 37, bxs := [1000000, 2, 3], ptrs := [] }
def getMethodA : Ann := ⟨[(3, (3, [.val 13 ((.int .i64)) false, .box 1000000 124 [(tySu8, false), (.bool, false)], .box 3 38 [(tyStyTTp, false), (tyStyTTp, false), ((.int .i64), false), ((.int .i64), false), (tyStyTIns, true), ((.int .i64), false), ((.int .i64), false), (tySi64, true)]]))], [], [(4, [[], [], [0, 1], [0, 1], [0, 1], [], [], []])], []⟩
theorem getMethodE (fuel : Nat) (r : List Int × Bool × Unit) : fnRun getMethodG getMethodA fuel Try.f63 [.box 124 ((.pair tySu8 (.pair .bool .unit)))] [.val (tyTMt)] (r, ()) = getMethodN fuel r := by kernel_rfl
theorem getMethodO : FOk Try.prog 63 getMethodS := fok (G := getMethodG) (fn := Try.f63) (A := getMethodA) (ctxOk (by kernel_rfl) (by kernel_rfl) ⟨getO, getTypesO, getNumsO, getTypeO, igetO, clipXO, trivial⟩) Try.func63 (by kernel_rfl) (by kernel_rfl) fun z r _ h => (getMethod_ok _ r h).elim fun k hk => ⟨k, (getMethodE k z.1).trans hk⟩

def icopyG : Ctx := { ty := [(3, (.int .i64)), (22, tyStyTCl), (23, tyStyTTp), (24, tySi32), (25, tyStyTMt), (26, tySi64), (28, tyTIm), (36, tyStyTIns), (38, tyTMt), (44, tyTCl)], fns := [(67, anTS), (68, anJS), (69, anIS), (70, anXS), (71, clipCS), (72, clipMS)], tips := [30, 68], n := 83, bxs := [1, 2, 3, 5, 7], ptrs := [] }
def icopyA : Ann := ⟨[(3, (4, [.val 25 ((.int .i64)) false, .box 3 28 [(tyStyTCl, true), (tyStyTTp, false), (tySi32, false), (tyStyTMt, true), (tySi64, false), ((.int .i64), false), ((.int .i64), false)]])), (8, (5, [.val 47 ((.int .i64)) false, .box 3 28 [(tyStyTCl, true), (tyStyTTp, false), (tySi32, false), (tyStyTMt, true), (tySi64, false), ((.int .i64), false), ((.int .i64), false)]]))], [], [(1, [[], [], [], [0, 1, 2], [0, 1, 2], [], [0, 1, 2, 3, 4, 5], [0, 1, 2, 3, 4, 5], [], [0, 1, 2, 3, 4, 5, 6, 7, 8], [0, 1, 2, 3, 4, 5, 6, 7, 8], [0, 1, 2, 3, 4, 5, 6, 7, 8, 9, 10], [0, 1, 2, 3, 4, 5, 6, 7, 8, 9, 10], [], [0, 1, 2, 3, 4, 5, 6, 7, 8, 9, 10, 11, 12, 13], []]), (5, [[], [], [0, 1], [0, 1], [0, 1, 2, 3], [0, 1, 2, 3], [0, 1, 2, 3], [0, 1, 2, 3, 4, 5, 6], [0, 1, 2, 3, 4, 5, 6], [0, 1, 2, 3], [0, 1], [0, 1], [], [], []]), (10, [[], [], [], [0, 1, 2], [0, 1, 2], [], [0, 1, 2, 3, 4, 5], [0, 1, 2, 3, 4, 5], [], [0, 1, 2, 3, 4, 5, 6, 7, 8], [0, 1, 2, 3, 4, 5, 6, 7, 8], [], [5, 8, 11], [], [], [], [], [], [], []]), (13, [[], [], [], [0, 1, 2], [0, 1, 2], [], [5], [], [], []])], []⟩
theorem icopyE (fuel : Nat) (m : Im) : fnRun icopyG icopyA fuel Try.f23 [.val (tyTIm)] [.val (tyTIm)] (m, ()) = icopyN fuel m := by kernel_rfl
theorem icopyO : FOk Try.prog 23 icopyS := fok (G := icopyG) (fn := Try.f23) (A := icopyA) (ctxOk (by kernel_rfl) (by kernel_rfl) ⟨anTO, anJO, anIO, anXO, clipCO, clipMO, trivial⟩) Try.func23 (by kernel_rfl) (by kernel_rfl) fun z r _ h => (icopy_ok _ r h).elim fun k hk => ⟨k, (icopyE k z.1).trans hk⟩

def idecodeG : Ctx := { ty := [(3, (.int .i64)), (9, .str), (22, tyStyTCl), (23, tyStyTTp), (24, tySi32), (25, tyStyTMt), (26, tySi64), (28, tyTIm), (44, tyTCl), (46, tySu8)], fns := [(19, ifitsS), (23, icopyS), (58, newS), (59, getS), (60, getTypesS), (61, getNumsS), (62, glongS), (63, getMethodS), (64, finS)], tips := [29, 50, 62], n := 89, bxs := [2, 23, 5], ptrs := [] }
def idecodeA : Ann := ⟨[(6, (3, [.val 26 ((.int .i64)) false, .box 23 124 [(tySu8, false), (.bool, false)], .box 5 28 [(tyStyTCl, true), (tyStyTTp, true), (tySi32, true), (tyStyTMt, true), (tySi64, true), ((.int .i64), false), ((.int .i64), false)]])), (11, (3, [.val 47 ((.int .i64)) false, .box 23 124 [(tySu8, false), (.bool, false)], .box 5 28 [(tyStyTCl, true), (tyStyTTp, false), (tySi32, true), (tyStyTMt, true), (tySi64, true), ((.int .i64), false), ((.int .i64), false)]])), (15, (3, [.val 59 ((.int .i64)) false, .box 23 124 [(tySu8, false), (.bool, false)], .box 5 28 [(tyStyTCl, true), (tyStyTTp, false), (tySi32, true), (tyStyTMt, true), (tySi64, true), ((.int .i64), false), ((.int .i64), false)]]))], [], [(7, [[], [], [0, 1], [0, 1], [0, 1], [0, 1, 2, 3, 4], [0, 1, 4], [0, 1, 2, 3, 4, 5, 6], [0, 1, 4], [0, 1], [0, 1], [], [], []]), (12, [[], [], [0, 1], [0, 1], [0, 1], [], [], []]), (16, [[], [], [0, 1], [0, 1], [0, 1], [], [], []])], []⟩
theorem idecodeE (fuel : Nat) (b : List Int) : fnRun idecodeG idecodeA fuel Try.f21 [.val (tySu8)] [.val (tyTIm), .val ((.int .i64))] (b, ()) = idecodeN fuel b := by kernel_rfl
theorem idecodeO : FOk Try.prog 21 idecodeS := fok (G := idecodeG) (fn := Try.f21) (A := idecodeA) (ctxOk (by kernel_rfl) (by kernel_rfl) ⟨ifitsO, icopyO, newO, getO, getTypesO, getNumsO, glongO, getMethodO, finO, trivial⟩) Try.func21 (by kernel_rfl) (by kernel_rfl) fun z r _ h => (idecode_ok _ r h).elim fun k hk => ⟨k, (idecodeE k z.1).trans hk⟩

def sameClassG : Ctx := { ty := [(3, (.int .i64)), (23, tyStyTTp), (26, tySi64), (44, tyTCl)], fns := [(77, eqTS), (79, eqIS)], tips := [], n := 24, bxs := [2, 3], ptrs := [] }
def sameClassA : Ann := ⟨[], [], [], []⟩
theorem sameClassE (fuel : Nat) (a : Cl) (b : Cl) : fnRun sameClassG sameClassA fuel Try.f74 [.val (tyTCl), .val (tyTCl)] [.val (.bool)] (a, b, ()) = sameClassN a b := by kernel_rfl
theorem sameClassO : FOk Try.prog 74 sameClassS := fok (G := sameClassG) (fn := Try.f74) (A := sameClassA) (ctxOk (by kernel_rfl) (by kernel_rfl) ⟨eqTO, eqIO, trivial⟩) Try.func74 (by kernel_rfl) (by kernel_rfl) fun z r _ h => ⟨0, (sameClassE 0 z.1 z.2.1).trans ((sameClass_eq _ _).trans h)⟩

def sameMethodG : Ctx := { ty := [(3, (.int .i64)), (23, tyStyTTp), (26, tySi64), (35, tyTTp), (36, tyStyTIns), (38, tyTMt)], fns := [(77, eqTS), (79, eqIS), (115, eqXS)], tips := [], n := 52, bxs := [2, 3], ptrs := [] }
def sameMethodA : Ann := ⟨[], [], [], []⟩
theorem sameMethodE (fuel : Nat) (a : Mt) (b : Mt) : fnRun sameMethodG sameMethodA fuel Try.f76 [.val (tyTMt), .val (tyTMt)] [.val (.bool)] (a, b, ()) = sameMethodN a b := by kernel_rfl
theorem sameMethodO : FOk Try.prog 76 sameMethodS := fok (G := sameMethodG) (fn := Try.f76) (A := sameMethodA) (ctxOk (by kernel_rfl) (by kernel_rfl) ⟨eqTO, eqIO, eqXO, trivial⟩) Try.func76 (by kernel_rfl) (by kernel_rfl) fun z r _ h => ⟨0, (sameMethodE 0 z.1 z.2.1).trans ((sameMethod_eq _ _).trans h)⟩

def eqfCG : Ctx := { ty := [(22, tyStyTCl), (44, tyTCl)], fns := [(74, sameClassS)], tips := [], n := 32, bxs := [8, 9], ptrs := [] }
def eqfCA : Ann := ⟨[(4, (6, [.val 17 ((.int .i64)) false]))], [], [], []⟩
theorem eqfCE (fuel : Nat) (a : List Cl) (b : List Cl) (c : Unit) : fnRun eqfCG eqfCA fuel Try.f73 [.val (tyStyTCl), .val (tyStyTCl), .val ((.clo 74 .unit))] [.val (.bool)] (a, b, c, ()) = eqfCN fuel a b c := by kernel_rfl
theorem eqfCO : FOk Try.prog 73 eqfCS := fok (G := eqfCG) (fn := Try.f73) (A := eqfCA) (ctxOk (by kernel_rfl) (by kernel_rfl) ⟨sameClassO, trivial⟩) Try.func73 (by kernel_rfl) (by kernel_rfl) fun z r hl h => (eqfC_eq _ _ _ hl).elim fun k hk => ⟨k, (eqfCE k z.1 z.2.1 z.2.2.1).trans (hk.trans h)⟩

def eqfMG : Ctx := { ty := [(25, tyStyTMt), (38, tyTMt)], fns := [(76, sameMethodS)], tips := [], n := 32, bxs := [8, 9], ptrs := [] }
def eqfMA : Ann := ⟨[(4, (6, [.val 17 ((.int .i64)) false]))], [], [], []⟩
theorem eqfME (fuel : Nat) (a : List Mt) (b : List Mt) (c : Unit) : fnRun eqfMG eqfMA fuel Try.f75 [.val (tyStyTMt), .val (tyStyTMt), .val ((.clo 76 .unit))] [.val (.bool)] (a, b, c, ()) = eqfMN fuel a b c := by kernel_rfl
theorem eqfMO : FOk Try.prog 75 eqfMS := fok (G := eqfMG) (fn := Try.f75) (A := eqfMA) (ctxOk (by kernel_rfl) (by kernel_rfl) ⟨sameMethodO, trivial⟩) Try.func75 (by kernel_rfl) (by kernel_rfl) fun z r hl h => (eqfM_eq _ _ _ hl).elim fun k hk => ⟨k, (eqfME k z.1 z.2.1 z.2.2.1).trans (hk.trans h)⟩

def isameG : Ctx := { ty := [(3, (.int .i64)), (22, tyStyTCl), (23, tyStyTTp), (24, tySi32), (25, tyStyTMt), (26, tySi64), (28, tyTIm)], fns := [(77, eqTS), (78, eqJS), (79, eqIS), (76000073, eqfCS), (78000075, eqfMS)], tips := [], n := 54, bxs := [2, 3], ptrs := [] }
def isameA : Ann := ⟨[], [(1, (1, [.val 5 (.bool) false]))], [], []⟩
theorem isameE (fuel : Nat) (a : Im) (b : Im) : fnRun isameG isameA fuel Try.f24 [.val (tyTIm), .val (tyTIm)] [.val (.bool)] (a, b, ()) = isameN a b := by kernel_rfl
theorem isameO : FOk Try.prog 24 isameS := fok (G := isameG) (fn := Try.f24) (A := isameA) (ctxOk (by kernel_rfl) (by kernel_rfl) ⟨eqTO, eqJO, eqIO, eqfCO, eqfMO, trivial⟩) Try.func24 (by kernel_rfl) (by kernel_rfl) fun z r _ h => ⟨0, (isameE 0 z.1 z.2.1).trans ((isame_eq _ _).trans h)⟩

def kgoodG : Ctx := { ty := [(3, (.int .i64)), (35, tyTTp)], fns := [], tips := [], n := 24, bxs := [2], ptrs := [] }
def kgoodA : Ann := ⟨[], [(2, (2, [.val 7 (.bool) false]))], [], []⟩
theorem kgoodE (fuel : Nat) (t : Tp) (n : Int) : fnRun kgoodG kgoodA fuel Try.f80 [.val (tyTTp), .val ((.int .i64))] [.val (.bool)] (t, n, ()) = kgoodN t n := by kernel_rfl
theorem kgoodO : FOk Try.prog 80 kgoodS := fok (G := kgoodG) (fn := Try.f80) (A := kgoodA) (ctxOk (by kernel_rfl) (by kernel_rfl) trivial) Try.func80 (by kernel_rfl) (by kernel_rfl) fun z r _ h => ⟨0, (kgoodE 0 z.1 z.2.1).trans ((kgood_eq _ _).trans h)⟩

def kisrefG : Ctx := { ty := [(3, (.int .i64)), (35, tyTTp)], fns := [], tips := [], n := 16, bxs := [1], ptrs := [] }
def kisrefA : Ann := ⟨[], [], [], []⟩
theorem kisrefE (fuel : Nat) (t : Tp) : fnRun kisrefG kisrefA fuel Try.f123 [.val (tyTTp)] [.val (.bool)] (t, ()) = kisrefN t := by kernel_rfl
theorem kisrefO : FOk Try.prog 123 kisrefS := fok (G := kisrefG) (fn := Try.f123) (A := kisrefA) (ctxOk (by kernel_rfl) (by kernel_rfl) trivial) Try.func123 (by kernel_rfl) (by kernel_rfl) fun z r _ h => ⟨0, (kisrefE 0 z.1).trans ((kisref_eq _).trans h)⟩

def kupG : Ctx := { ty := [(3, (.int .i64)), (22, tyStyTCl), (44, tyTCl)], fns := [], tips := [], n := 27, bxs := [], ptrs := [] }
def kupA : Ann := ⟨[], [], [], []⟩
theorem kupE (fuel : Nat) (l : List Cl) (c : Int) : fnRun kupG kupA fuel Try.f125 [.val (tyStyTCl), .val ((.int .i64))] [.val ((.int .i64))] (l, c, ()) = kupN l c := by kernel_rfl
theorem kupO : FOk Try.prog 125 kupS := fok (G := kupG) (fn := Try.f125) (A := kupA) (ctxOk (by kernel_rfl) (by kernel_rfl) trivial) Try.func125 (by kernel_rfl) (by kernel_rfl) fun z r _ h => ⟨0, (kupE 0 z.1 z.2.1).trans ((kup_eq _ _).trans h)⟩

def kbelowG : Ctx := { ty := [(22, tyStyTCl)], fns := [(125, kupS)], tips := [], n := 29, bxs := [], ptrs := [] }
def kbelowA : Ann := ⟨[(3, (4, [.val 1 ((.int .i64)) false]))], [], [], []⟩
theorem kbelowE (fuel : Nat) (l : List Cl) (a : Int) (b : Int) : fnRun kbelowG kbelowA fuel Try.f124 [.val (tyStyTCl), .val ((.int .i64)), .val ((.int .i64))] [.val (.bool)] (l, a, b, ()) = kbelowN fuel l a b := by kernel_rfl
theorem kbelowO : FOk Try.prog 124 kbelowS := fok (G := kbelowG) (fn := Try.f124) (A := kbelowA) (ctxOk (by kernel_rfl) (by kernel_rfl) ⟨kupO, trivial⟩) Try.func124 (by kernel_rfl) (by kernel_rfl) fun z r _ h => (kbelow_eq _ _ _).elim fun k hk => ⟨k, (kbelowE k z.1 z.2.1 z.2.2.1).trans (hk.trans h)⟩

def ksubG : Ctx := { ty := [(3, (.int .i64)), (35, tyTTp)], fns := [(123, kisrefS), (124, kbelowS)], tips := [], n := 41, bxs := [4, 5], ptrs := [] }
def ksubA : Ann := ⟨[], [], [], []⟩
theorem ksubE (fuel : Nat) (l : List Cl) (a : Tp) (b : Tp) : fnRun ksubG ksubA fuel Try.f116 [.val (tyStyTCl), .val (tyTTp), .val (tyTTp)] [.val (.bool)] (l, a, b, ()) = ksubN l a b := by kernel_rfl
theorem ksubO : FOk Try.prog 116 ksubS := fok (G := ksubG) (fn := Try.f116) (A := ksubA) (ctxOk (by kernel_rfl) (by kernel_rfl) ⟨kisrefO, kbelowO, trivial⟩) Try.func116 (by kernel_rfl) (by kernel_rfl) fun z r _ h => ⟨0, (ksubE 0 z.1 z.2.1 z.2.2.1).trans ((ksub_eq _ _ _).trans h)⟩

def raboveG : Ctx := { ty := [(3, (.int .i64)), (22, tyStyTCl), (26, tySi64), (44, tyTCl)], fns := [], tips := [16], n := 30, bxs := [], ptrs := [] }
def raboveA : Ann := ⟨[(2, (6, [.val 1 ((.int .i64)) false, .val 5 (tySi64) true]))], [], [], []⟩
theorem raboveE (fuel : Nat) (l : List Cl) (c : Int) : fnRun raboveG raboveA fuel Try.f118 [.val (tyStyTCl), .val ((.int .i64))] [.val (tySi64)] (l, c, ()) = raboveN fuel l c := by kernel_rfl
theorem raboveO : FOk Try.prog 118 raboveS := fok (G := raboveG) (fn := Try.f118) (A := raboveA) (ctxOk (by kernel_rfl) (by kernel_rfl) trivial) Try.func118 (by kernel_rfl) (by kernel_rfl) fun z r _ h => (rabove_ok _ _ r h).elim fun k hk => ⟨k, (raboveE k z.1 z.2.1).trans hk⟩

def risrefG : Ctx := { ty := [(3, (.int .i64)), (35, tyTTp)], fns := [], tips := [], n := 16, bxs := [1], ptrs := [] }
def risrefA : Ann := ⟨[], [], [], []⟩
theorem risrefE (fuel : Nat) (t : Tp) : fnRun risrefG risrefA fuel Try.f119 [.val (tyTTp)] [.val (.bool)] (t, ()) = risrefN t := by kernel_rfl
theorem risrefO : FOk Try.prog 119 risrefS := fok (G := risrefG) (fn := Try.f119) (A := risrefA) (ctxOk (by kernel_rfl) (by kernel_rfl) trivial) Try.func119 (by kernel_rfl) (by kernel_rfl) fun z r _ h => ⟨0, (risrefE 0 z.1).trans ((risref_eq _).trans h)⟩

def rgoodG : Ctx := { ty := [(3, (.int .i64)), (35, tyTTp)], fns := [], tips := [], n := 34, bxs := [2], ptrs := [] }
def rgoodA : Ann := ⟨[], [], [], []⟩
theorem rgoodE (fuel : Nat) (t : Tp) (n : Int) : fnRun rgoodG rgoodA fuel Try.f90 [.val (tyTTp), .val ((.int .i64))] [.val (.bool)] (t, n, ()) = rgoodN t n := by kernel_rfl
theorem rgoodO : FOk Try.prog 90 rgoodS := fok (G := rgoodG) (fn := Try.f90) (A := rgoodA) (ctxOk (by kernel_rfl) (by kernel_rfl) trivial) Try.func90 (by kernel_rfl) (by kernel_rfl) fun z r _ h => ⟨0, (rgoodE 0 z.1 z.2.1).trans ((rgood_eq _ _).trans h)⟩

def rsubG : Ctx := { ty := [(3, (.int .i64)), (35, tyTTp)], fns := [(103, rinS), (118, raboveS), (119, risrefS)], tips := [], n := 40, bxs := [4, 5], ptrs := [] }
def rsubA : Ann := ⟨[], [], [(4, [[], [], [], [], [], [4], [4], [], [4, 5, 6, 7], [4, 5, 6, 7], [], [], []])], []⟩
theorem rsubE (fuel : Nat) (l : List Cl) (a : Tp) (b : Tp) : fnRun rsubG rsubA fuel Try.f92 [.val (tyStyTCl), .val (tyTTp), .val (tyTTp)] [.val (.bool)] (l, a, b, ()) = rsubN l a b := by kernel_rfl
theorem rsubO : FOk Try.prog 92 rsubS := fok (G := rsubG) (fn := Try.f92) (A := rsubA) (ctxOk (by kernel_rfl) (by kernel_rfl) ⟨rinO, raboveO, risrefO, trivial⟩) Try.func92 (by kernel_rfl) (by kernel_rfl) fun z r _ h => ⟨0, (rsubE 0 z.1 z.2.1 z.2.2.1).trans (rsub_ok _ _ _ r h)⟩

def rtypesG : Ctx := { ty := [(23, tyStyTTp), (35, tyTTp)], fns := [], tips := [], n := 26, bxs := [], ptrs := [] }
def rtypesA : Ann := ⟨[(4, (4, [.val 5 ((.int .i64)) false]))], [], [(6, [[], [0], [], [], [0, 1, 2, 3], [0, 1, 2, 3, 4], [0, 1, 2, 3], [0, 1, 2, 3], []])], []⟩
theorem rtypesE (fuel : Nat) (a : List Tp) (b : List Tp) : fnRun rtypesG rtypesA fuel Try.f65 [.val (tyStyTTp), .val (tyStyTTp)] [.val (.bool)] (a, b, ()) = rtypesN fuel a b := by kernel_rfl
theorem rtypesO : FOk Try.prog 65 rtypesS := fok (G := rtypesG) (fn := Try.f65) (A := rtypesA) (ctxOk (by kernel_rfl) (by kernel_rfl) trivial) Try.func65 (by kernel_rfl) (by kernel_rfl) fun z r hl h => (rtypes_eq _ _ hl).elim fun k hk => ⟨k, (rtypesE k z.1 z.2.1).trans (hk.trans h)⟩

def rintsG : Ctx := { ty := [(3, (.int .i64)), (26, tySi64)], fns := [], tips := [], n := 26, bxs := [], ptrs := [] }
def rintsA : Ann := ⟨[(4, (4, [.val 5 ((.int .i64)) false]))], [], [(6, [[], [0], [], [], [0, 1, 2, 3], [0, 1, 2, 3, 4], [0, 1, 2, 3], [0, 1, 2, 3], []])], []⟩
theorem rintsE (fuel : Nat) (a : List Int) (b : List Int) : fnRun rintsG rintsA fuel Try.f66 [.val (tySi64), .val (tySi64)] [.val (.bool)] (a, b, ()) = rintsN fuel a b := by kernel_rfl
theorem rintsO : FOk Try.prog 66 rintsS := fok (G := rintsG) (fn := Try.f66) (A := rintsA) (ctxOk (by kernel_rfl) (by kernel_rfl) trivial) Try.func66 (by kernel_rfl) (by kernel_rfl) fun z r hl h => (rints_eq _ _ hl).elim fun k hk => ⟨k, (rintsE k z.1 z.2.1).trans (hk.trans h)⟩

def r5inG : Ctx := { ty := [], fns := [], tips := [], n := 15, bxs := [], ptrs := [] }
def r5inA : Ann := ⟨[], [], [], []⟩
theorem r5inE (fuel : Nat) (n : Int) (a : Int) (b : Int) : fnRun r5inG r5inA fuel Try.f40 [.val ((.int .i64)), .val ((.int .i64)), .val ((.int .i64))] [.val (.bool)] (n, a, b, ()) = r5inN n a b := by kernel_rfl
theorem r5inO : FOk Try.prog 40 r5inS := fok (G := r5inG) (fn := Try.f40) (A := r5inA) (ctxOk (by kernel_rfl) (by kernel_rfl) trivial) Try.func40 (by kernel_rfl) (by kernel_rfl) fun z r _ h => ⟨0, (r5inE 0 z.1 z.2.1 z.2.2.1).trans ((r5in_eq _ _ _).trans h)⟩

def r5listG : Ctx := { ty := [(3, (.int .i64)), (26, tySi64)], fns := [(40, r5inS)], tips := [], n := 25, bxs := [], ptrs := [] }
def r5listA : Ann := ⟨[(4, (4, [.val 7 ((.int .i64)) false]))], [], [], []⟩
theorem r5listE (fuel : Nat) (l : List Int) (c : Int) (m : Int) : fnRun r5listG r5listA fuel Try.f39 [.val (tySi64), .val ((.int .i64)), .val ((.int .i64))] [.val (.bool)] (l, c, m, ()) = r5listN fuel l c m := by kernel_rfl
theorem r5listO : FOk Try.prog 39 r5listS := fok (G := r5listG) (fn := Try.f39) (A := r5listA) (ctxOk (by kernel_rfl) (by kernel_rfl) ⟨r5inO, trivial⟩) Try.func39 (by kernel_rfl) (by kernel_rfl) fun z r hl h => (r5list_eq _ _ _ hl).elim fun k hk => ⟨k, (r5listE k z.1 z.2.1 z.2.2.1).trans (hk.trans h)⟩

def r5typG : Ctx := { ty := [(3, (.int .i64)), (35, tyTTp)], fns := [(40, r5inS)], tips := [], n := 21, bxs := [1], ptrs := [] }
def r5typA : Ann := ⟨[], [], [], []⟩
theorem r5typE (fuel : Nat) (t : Tp) : fnRun r5typG r5typA fuel Try.f41 [.val (tyTTp)] [.val (.bool)] (t, ()) = r5typN t := by kernel_rfl
theorem r5typO : FOk Try.prog 41 r5typS := fok (G := r5typG) (fn := Try.f41) (A := r5typA) (ctxOk (by kernel_rfl) (by kernel_rfl) ⟨r5inO, trivial⟩) Try.func41 (by kernel_rfl) (by kernel_rfl) fun z r _ h => ⟨0, (r5typE 0 z.1).trans ((r5typ_eq _).trans h)⟩

def r5typesG : Ctx := { ty := [(23, tyStyTTp), (35, tyTTp)], fns := [(41, r5typS)], tips := [], n := 22, bxs := [], ptrs := [] }
def r5typesA : Ann := ⟨[(4, (4, [.val 5 ((.int .i64)) false]))], [], [], []⟩
theorem r5typesE (fuel : Nat) (l : List Tp) (c : Int) : fnRun r5typesG r5typesA fuel Try.f38 [.val (tyStyTTp), .val ((.int .i64))] [.val (.bool)] (l, c, ()) = r5typesN fuel l c := by kernel_rfl
theorem r5typesO : FOk Try.prog 38 r5typesS := fok (G := r5typesG) (fn := Try.f38) (A := r5typesA) (ctxOk (by kernel_rfl) (by kernel_rfl) ⟨r5typO, trivial⟩) Try.func38 (by kernel_rfl) (by kernel_rfl) fun z r hl h => (r5types_eq _ _ hl).elim fun k hk => ⟨k, (r5typesE k z.1 z.2.1).trans (hk.trans h)⟩

def r5fitsG : Ctx := { ty := [(3, (.int .i64)), (22, tyStyTCl), (23, tyStyTTp), (24, tySi32), (25, tyStyTMt), (26, tySi64), (28, tyTIm), (35, tyTTp), (36, tyStyTIns), (38, tyTMt), (41, tyTIns), (44, tyTCl)], fns := [(38, r5typesS), (39, r5listS), (40, r5inS), (41, r5typS), (42, rinstrS)], tips := [], n := 142, bxs := [1, 4, 6], ptrs := [] }
def r5fitsA : Ann := ⟨[(4, (5, [.val 3 ((.int .i64)) false])), (10, (10, [.val 5 ((.int .i64)) false])), (16, (4, [.val 7 ((.int .i64)) false]))], [], [], []⟩
theorem r5fitsE (fuel : Nat) (m : Im) : fnRun r5fitsG r5fitsA fuel Try.f18 [.val (tyTIm)] [.val (.bool)] (m, ()) = r5fitsN fuel m := by kernel_rfl
theorem r5fitsO : FOk Try.prog 18 r5fitsS := fok (G := r5fitsG) (fn := Try.f18) (A := r5fitsA) (ctxOk (by kernel_rfl) (by kernel_rfl) ⟨r5typesO, r5listO, r5inO, r5typO, rinstrO, trivial⟩) Try.func18 (by kernel_rfl) (by kernel_rfl) fun z r hl h => (r5fits_eq _ hl).elim fun k hk => ⟨k, (r5fitsE k z.1).trans (hk.trans h)⟩

def r5numsG : Ctx := { ty := [(3, (.int .i64)), (26, tySi64), (46, tySu8)], fns := [(52, rbytesS)], tips := [14, 21], n := 22, bxs := [], ptrs := [] }
def r5numsA : Ann := ⟨[(3, (3, [.val 3 (tySu8) true, .val 4 ((.int .i64)) false]))], [], [], []⟩
theorem r5numsE (fuel : Nat) (l : List Int) : fnRun r5numsG r5numsA fuel Try.f54 [.val (tySi64)] [.tip (tySu8)] (l, ()) = r5numsN fuel l := by kernel_rfl
theorem r5numsO : FOk Try.prog 54 r5numsS := fok (G := r5numsG) (fn := Try.f54) (A := r5numsA) (ctxOk (by kernel_rfl) (by kernel_rfl) ⟨rbytesO, trivial⟩) Try.func54 (by kernel_rfl) (by kernel_rfl) fun z r _ h => (r5nums_ok _ r h).elim fun k hk => ⟨k, (r5numsE k z.1).trans hk⟩

def r5oneG : Ctx := { ty := [(3, (.int .i64)), (35, tyTTp), (46, tySu8)], fns := [(52, rbytesS)], tips := [], n := 14, bxs := [1], ptrs := [] }
def r5oneA : Ann := ⟨[], [], [(2, [[], [0], [0], [], [], []])], []⟩
theorem r5oneE (fuel : Nat) (t : Tp) : fnRun r5oneG r5oneA fuel Try.f56 [.val (tyTTp)] [.tip (tySu8)] (t, ()) = r5oneN t := by kernel_rfl
theorem r5oneO : FOk Try.prog 56 r5oneS := fok (G := r5oneG) (fn := Try.f56) (A := r5oneA) (ctxOk (by kernel_rfl) (by kernel_rfl) ⟨rbytesO, trivial⟩) Try.func56 (by kernel_rfl) (by kernel_rfl) fun z r _ h => ⟨0, (r5oneE 0 z.1).trans (r5one_ok _ r h)⟩

def r5severalG : Ctx := { ty := [(23, tyStyTTp), (35, tyTTp), (46, tySu8)], fns := [(52, rbytesS), (56, r5oneS)], tips := [14, 21], n := 22, bxs := [], ptrs := [] }
def r5severalA : Ann := ⟨[(3, (3, [.val 3 (tySu8) true, .val 4 ((.int .i64)) false]))], [], [], []⟩
theorem r5severalE (fuel : Nat) (l : List Tp) : fnRun r5severalG r5severalA fuel Try.f53 [.val (tyStyTTp)] [.tip (tySu8)] (l, ()) = r5severalN fuel l := by kernel_rfl
theorem r5severalO : FOk Try.prog 53 r5severalS := fok (G := r5severalG) (fn := Try.f53) (A := r5severalA) (ctxOk (by kernel_rfl) (by kernel_rfl) ⟨rbytesO, r5oneO, trivial⟩) Try.func53 (by kernel_rfl) (by kernel_rfl) fun z r _ h => (r5several_ok _ r h).elim fun k hk => ⟨k, (r5severalE k z.1).trans hk⟩

def r5encodeG : Ctx := { ty := [(3, (.int .i64)), (21, (.int .i32)), (22, tyStyTCl), (23, tyStyTTp), (24, tySi32), (25, tyStyTMt), (26, tySi64), (28, tyTIm), (35, tyTTp), (36, tyStyTIns), (38, tyTMt), (41, tyTIns), (44, tyTCl), (46, tySu8)], fns := [(52, rbytesS), (53, r5severalS), (54, r5numsS), (55, rsignedS), (56, r5oneS), (57, rargsS)], tips := [23, 33, 42, 51, 56, 69, 77, 95, 108, 121, 138, 155, 164, 177], n := 190, bxs := [1, 7], ptrs := [] }
def r5encodeA : Ann := ⟨[(3, (5, [.val 3 (tySu8) true, .val 4 ((.int .i64)) false])), (11, (3, [.val 3 (tySu8) true, .val 5 ((.int .i64)) false])), (16, (14, [.val 3 (tySu8) true, .val 6 ((.int .i64)) false])), (22, (7, [.val 3 (tySu8) true, .val 8 ((.int .i64)) false]))], [(25, (2, [.val 3 (tySu8) true]))], [(19, [[], [0], [0], [0], [], [0, 1, 2, 3, 4], [0, 1, 2, 3, 4], [], [], [0, 1, 2, 3, 4, 5, 6, 7, 8], [0, 1, 2, 3, 4, 5, 6, 7, 8], [], [], []]), (29, [[], [0], [0], [0], [], [0, 1, 2, 3, 4], [0, 1, 2, 3, 4], [], [], [0, 1, 2, 3, 4, 5, 6, 7, 8], [0, 1, 2, 3, 4, 5, 6, 7, 8], [], [], []]), (30, [[], [0], [0], [0], [], [0, 1, 2, 3, 4], [0, 1, 2, 3, 4], [], [], [0, 1, 2, 3, 4, 5, 6, 7, 8], [0, 1, 2, 3, 4, 5, 6, 7, 8], [], [], []])], []⟩
theorem r5encodeE (fuel : Nat) (m : Im) : fnRun r5encodeG r5encodeA fuel Try.f20 [.val (tyTIm)] [.tip (tySu8)] (m, ()) = r5encodeN fuel m := by kernel_rfl
theorem r5encodeO : FOk Try.prog 20 r5encodeS := fok (G := r5encodeG) (fn := Try.f20) (A := r5encodeA) (ctxOk (by kernel_rfl) (by kernel_rfl) ⟨rbytesO, r5severalO, r5numsO, rsignedO, r5oneO, rargsO, trivial⟩) Try.func20 (by kernel_rfl) (by kernel_rfl) fun z r _ h => (r5encode_ok _ r h).elim fun k hk => ⟨k, (r5encodeE k z.1).trans hk⟩

def r5sameG : Ctx := { ty := [(3, (.int .i64)), (21, (.int .i32)), (22, tyStyTCl), (23, tyStyTTp), (24, tySi32), (25, tyStyTMt), (26, tySi64), (28, tyTIm), (35, tyTTp), (36, tyStyTIns), (38, tyTMt), (41, tyTIns), (44, tyTCl)], fns := [(65, rtypesS), (66, rintsS)], tips := [], n := 211, bxs := [2, 3, 7, 8, 10, 11], ptrs := [] }
def r5sameA : Ann := ⟨[(4, (4, [.val 5 ((.int .i64)) false])), (9, (5, [.val 6 ((.int .i64)) false])), (15, (10, [.val 9 ((.int .i64)) false])), (21, (4, [.val 12 ((.int .i64)) false]))], [], [(6, [[], [], [0, 1], [], [], [0, 1, 2, 3, 4], [0, 1, 2, 3, 4], [0, 1, 2, 3, 4, 5, 6], [0, 1, 2, 3, 4], [0, 1, 2, 3, 4], []]), (11, [[], [], [0, 1], [], [], [0, 1, 2, 3, 4], [0, 1, 2, 3, 4], [0, 1, 2, 3, 4, 5, 6], [0, 1, 2, 3, 4], [0, 1, 2, 3, 4], [0, 1, 2, 3, 4, 5, 6, 7, 8, 9], [0, 1, 2, 3, 4, 5, 6, 7, 8, 9, 10], [5, 6, 7, 8, 9], []]), (17, [[], [], [0, 1], [], [], [0, 1, 2, 3, 4], [0, 1, 2, 3, 4], [0, 1, 2, 3, 4, 5, 6], [0, 1, 2, 3, 4], [0, 1, 2, 3, 4], [0, 1, 2, 3, 4, 5, 6, 7, 8, 9], [0, 1, 2, 3, 4, 5, 6, 7, 8, 9, 10], [5, 6, 7, 8, 9], []]), (23, [[], [], [0, 1], [], [], [0, 1, 2, 3, 4], [0, 1, 2, 3, 4], [0, 1, 2, 3, 4, 5, 6], [0, 1, 2, 3, 4], [0, 1, 2, 3, 4], []])], [(11, [0, 1, 2, 3, 4, 8, 9, 10, 11, 12, 5, 6, 7, 13]), (17, [0, 1, 2, 3, 4, 8, 9, 10, 11, 12, 5, 6, 7, 13])]⟩
theorem r5sameE (fuel : Nat) (a : Im) (b : Im) : fnRun r5sameG r5sameA fuel Try.f22 [.val (tyTIm), .val (tyTIm)] [.val (.bool)] (a, b, ()) = r5sameN fuel a b := by kernel_rfl
theorem r5sameO : FOk Try.prog 22 r5sameS := fok (G := r5sameG) (fn := Try.f22) (A := r5sameA) (ctxOk (by kernel_rfl) (by kernel_rfl) ⟨rtypesO, rintsO, trivial⟩) Try.func22 (by kernel_rfl) (by kernel_rfl) fun z r hl h => (r5same_eq _ _ hl).elim fun k hk => ⟨k, (r5sameE k z.1 z.2.1).trans (hk.trans h)⟩

def r5fieldsG : Ctx := { ty := [(3, (.int .i64)), (22, tyStyTCl), (23, tyStyTTp), (26, tySi64), (28, tyTIm), (44, tyTCl)], fns := [(118, raboveS)], tips := [20, 31], n := 32, bxs := [2], ptrs := [] }
def r5fieldsA : Ann := ⟨[(4, (3, [.val 6 (tyStyTTp) true, .val 7 ((.int .i64)) false]))], [], [(6, [[], [0], [0], [0, 1, 2], [0, 1, 2, 3], [0, 1, 2], [0, 1, 2], [0], [0], [0], [], []])], []⟩
theorem r5fieldsE (fuel : Nat) (m : Im) (c : Int) : fnRun r5fieldsG r5fieldsA fuel Try.f91 [.val (tyTIm), .val ((.int .i64))] [.tip (tyStyTTp)] (m, c, ()) = r5fieldsN fuel m c := by kernel_rfl
theorem r5fieldsO : FOk Try.prog 91 r5fieldsS := fok (G := r5fieldsG) (fn := Try.f91) (A := r5fieldsA) (ctxOk (by kernel_rfl) (by kernel_rfl) ⟨raboveO, trivial⟩) Try.func91 (by kernel_rfl) (by kernel_rfl) fun z r _ h => (r5fields_ok _ _ r h).elim fun k hk => ⟨k, (r5fieldsE k z.1 z.2.1).trans hk⟩

def r5goodG : Ctx := { ty := [(22, tyStyTCl), (23, tyStyTTp), (28, tyTIm), (35, tyTTp)], fns := [(90, rgoodS)], tips := [], n := 21, bxs := [2], ptrs := [] }
def r5goodA : Ann := ⟨[(2, (4, [.val 5 ((.int .i64)) false]))], [], [(4, [[], [0], [], [], [0, 1, 2, 3], [0, 1, 2, 3], [0, 1, 2, 3], [], []])], []⟩
theorem r5goodE (fuel : Nat) (m : Im) (l : List Tp) : fnRun r5goodG r5goodA fuel Try.f29 [.val (tyTIm), .val (tyStyTTp)] [.val (.bool)] (m, l, ()) = r5goodN fuel m l := by kernel_rfl
theorem r5goodO : FOk Try.prog 29 r5goodS := fok (G := r5goodG) (fn := Try.f29) (A := r5goodA) (ctxOk (by kernel_rfl) (by kernel_rfl) ⟨rgoodO, trivial⟩) Try.func29 (by kernel_rfl) (by kernel_rfl) fun z r hl h => (r5good_eq _ _ hl).elim fun k hk => ⟨k, (r5goodE k z.1 z.2.1).trans (hk.trans h)⟩

def r5classG : Ctx := { ty := [(3, (.int .i64)), (22, tyStyTCl), (23, tyStyTTp), (25, tyStyTMt), (26, tySi64), (28, tyTIm), (35, tyTTp), (38, tyTMt), (44, tyTCl)], fns := [(29, r5goodS), (65, rtypesS), (91, r5fieldsS), (92, rsubS)], tips := [], n := 118, bxs := [2, 5, 8, 9], ptrs := [] }
def r5classA : Ann := ⟨[(10, (11, [.val 7 ((.int .i64)) false]))], [(5, (2, [.val 6 (tySi64) false])), (12, (9, []))], [(12, [[], [], [0, 1], [], [], [0, 1, 2, 3, 4], [0, 1, 2, 3, 4], [0, 1, 2, 3, 4], []]), (14, [[], [], [0, 1], [0, 1], [0, 1, 2, 3], [0, 1], [0, 1], [], [], [0, 1, 2, 3, 4, 5, 6, 7, 8], []]), (15, [[], [], [], [], [], [], [], [5, 6], [5, 6], [5, 6, 7, 8], [5, 6, 7, 8], [5, 6, 7, 8], [5, 6, 7, 8], [], [], []]), (18, [[], [], [0, 1], [0, 1, 2], [0, 1], [0, 1], [], [], [0, 1, 2, 3, 4, 5, 6, 7], []]), (19, [[], [], [], [0, 1, 2], [0, 1, 2], [0, 1, 2], [], [], [], [], [], [9, 10], [9, 10], [], []])], []⟩
theorem r5classE (fuel : Nat) (m : Im) (c : Int) : fnRun r5classG r5classA fuel Try.f30 [.val (tyTIm), .val ((.int .i64))] [.val (.bool)] (m, c, ()) = r5classN fuel m c := by kernel_rfl
theorem r5classO : FOk Try.prog 30 r5classS := fok (G := r5classG) (fn := Try.f30) (A := r5classA) (ctxOk (by kernel_rfl) (by kernel_rfl) ⟨r5goodO, rtypesO, r5fieldsO, rsubO, trivial⟩) Try.func30 (by kernel_rfl) (by kernel_rfl) fun z r _ h => (r5class_ok _ _ r h).elim fun k hk => ⟨k, (r5classE k z.1 z.2.1).trans hk⟩

def r5namedG : Ctx := { ty := [(3, (.int .i64)), (22, tyStyTCl), (23, tyStyTTp), (24, tySi32), (25, tyStyTMt), (26, tySi64), (28, tyTIm), (36, tyStyTIns), (38, tyTMt), (41, tyTIns), (44, tyTCl)], fns := [(91, r5fieldsS)], tips := [], n := 105, bxs := [3, 4, 5], ptrs := [] }
def r5namedA : Ann := ⟨[], [(4, (2, [.val 17 (.bool) false])), (7, (2, [.val 30 (.bool) false])), (10, (2, [.val 39 (.bool) false])), (13, (2, [.val 48 (.bool) false])), (16, (2, [.val 67 (.bool) false]))], [(15, [[], [], [0, 1], [0, 1], [0, 1], [], [], [], [], [7, 8], [7, 8, 9], [7, 8, 9], [7, 8], [7, 8], [], [], []]), (22, [[], [], [0, 1], [0, 1], [0, 1], [], [], [], [], [7, 8], [7, 8], [7, 8, 9, 10], [7, 8, 9, 10], [7, 8], [7, 8], [7, 8], [7, 8], [], [], []])], []⟩
theorem r5namedE (fuel : Nat) (m : Im) (x : Mt) (i : Ins) : fnRun r5namedG r5namedA fuel Try.f93 [.val (tyTIm), .val (tyTMt), .val (tyTIns)] [.val (.bool)] (m, x, i, ()) = r5namedN m x i := by kernel_rfl
theorem r5namedO : FOk Try.prog 93 r5namedS := fok (G := r5namedG) (fn := Try.f93) (A := r5namedA) (ctxOk (by kernel_rfl) (by kernel_rfl) ⟨r5fieldsO, trivial⟩) Try.func93 (by kernel_rfl) (by kernel_rfl) fun z r _ h => ⟨0, (r5namedE 0 z.1 z.2.1 z.2.2.1).trans (r5named_ok _ _ _ r h)⟩

def r5methodG : Ctx := { ty := [(22, tyStyTCl), (23, tyStyTTp), (26, tySi64), (28, tyTIm), (35, tyTTp), (36, tyStyTIns), (38, tyTMt), (41, tyTIns)], fns := [(29, r5goodS), (90, rgoodS), (93, r5namedS)], tips := [], n := 74, bxs := [2, 3], ptrs := [] }
def r5methodA : Ann := ⟨[(4, (4, [.val 5 ((.int .i64)) false]))], [(1, (2, []))], [(6, [[], [0], [0, 1], [0, 1], [0, 1, 2, 3], [0, 1], [0, 1], [], []])], []⟩
theorem r5methodE (fuel : Nat) (m : Im) (x : Mt) : fnRun r5methodG r5methodA fuel Try.f31 [.val (tyTIm), .val (tyTMt)] [.val (.bool)] (m, x, ()) = r5methodN fuel m x := by kernel_rfl
theorem r5methodO : FOk Try.prog 31 r5methodS := fok (G := r5methodG) (fn := Try.f31) (A := r5methodA) (ctxOk (by kernel_rfl) (by kernel_rfl) ⟨r5goodO, rgoodO, r5namedO, trivial⟩) Try.func31 (by kernel_rfl) (by kernel_rfl) fun z r _ h => (r5method_ok _ _ r h).elim fun k hk => ⟨k, (r5methodE k z.1 z.2.1).trans hk⟩

def r5saneG : Ctx := { ty := [(3, (.int .i64)), (22, tyStyTCl), (23, tyStyTTp), (25, tyStyTMt), (26, tySi64), (28, tyTIm), (35, tyTTp), (38, tyTMt)], fns := [(18, r5fitsS), (29, r5goodS), (30, r5classS), (31, r5methodS)], tips := [], n := 111, bxs := [1], ptrs := [] }
def r5saneA : Ann := ⟨[(5, (3, [.val 3 (.bool) false, .val 4 ((.int .i64)) false])), (9, (3, [.val 3 (.bool) false, .val 5 ((.int .i64)) false])), (13, (10, [.val 3 (.bool) false, .val 6 ((.int .i64)) false])), (20, (3, [.val 3 (.bool) false, .val 8 ((.int .i64)) false]))], [(4, (4, [.val 3 (.bool) false])), (8, (4, [.val 3 (.bool) false])), (18, (1, [.val 3 (.bool) false]))], [(11, [[], [0], [0], [0, 1, 2], [0], [0], [], []])], []⟩
theorem r5saneE (fuel : Nat) (m : Im) : fnRun r5saneG r5saneA fuel Try.f14 [.val (tyTIm)] [.val ((.int .i64))] (m, ()) = r5saneN fuel m := by kernel_rfl
theorem r5saneO : FOk Try.prog 14 r5saneS := fok (G := r5saneG) (fn := Try.f14) (A := r5saneA) (ctxOk (by kernel_rfl) (by kernel_rfl) ⟨r5fitsO, r5goodO, r5classO, r5methodO, trivial⟩) Try.func14 (by kernel_rfl) (by kernel_rfl) fun z r hl h => (r5sane_eq _ hl).elim fun k hk => ⟨k, (r5saneE k z.1).trans (hk.trans h)⟩

def sinG : Ctx := { ty := [], fns := [], tips := [], n := 12, bxs := [], ptrs := [] }
def sinA : Ann := ⟨[], [], [], []⟩
theorem sinE (fuel : Nat) (n : Int) (c : Int) : fnRun sinG sinA fuel Try.f82 [.val ((.int .i64)), .val ((.int .i64))] [.val (.bool)] (n, c, ()) = sinN n c := by kernel_rfl
theorem sinO : FOk Try.prog 82 sinS := fok (G := sinG) (fn := Try.f82) (A := sinA) (ctxOk (by kernel_rfl) (by kernel_rfl) trivial) Try.func82 (by kernel_rfl) (by kernel_rfl) fun z r _ h => ⟨0, (sinE 0 z.1 z.2.1).trans ((sin_eq _ _).trans h)⟩

def sallG : Ctx := { ty := [(22, tyStyTCl), (23, tyStyTTp), (28, tyTIm), (35, tyTTp), (103, tyStyStyTTp)], fns := [(80, kgoodS)], tips := [], n := 29, bxs := [2, 8], ptrs := [] }
def sallA : Ann := ⟨[(2, (9, [.val 11 ((.int .i64)) false])), (5, (5, [.val 17 ((.int .i64)) false]))], [], [], []⟩
theorem sallE (fuel : Nat) (m : Im) (l : List (List Tp)) : fnRun sallG sallA fuel Try.f25 [.val (tyTIm), .val (tyStyStyTTp)] [.val (.bool)] (m, l, ()) = sallN fuel m l := by kernel_rfl
theorem sallO : FOk Try.prog 25 sallS := fok (G := sallG) (fn := Try.f25) (A := sallA) (ctxOk (by kernel_rfl) (by kernel_rfl) ⟨kgoodO, trivial⟩) Try.func25 (by kernel_rfl) (by kernel_rfl) fun z r hl h => (sall_eq _ _ hl).elim fun k hk => ⟨k, (sallE k z.1 z.2.1).trans (hk.trans h)⟩

def saboveG : Ctx := { ty := [(3, (.int .i64)), (22, tyStyTCl), (23, tyStyTTp), (26, tySi64), (28, tyTIm), (44, tyTCl)], fns := [], tips := [], n := 47, bxs := [2], ptrs := [] }
def saboveA : Ann := ⟨[(5, (3, [.val 4 ((.int .i64)) false, .val 7 ((.int .i64)) false]))], [(1, (3, [.val 5 (tySi64) false]))], [], []⟩
theorem saboveE (fuel : Nat) (m : Im) (c : Int) : fnRun saboveG saboveA fuel Try.f81 [.val (tyTIm), .val ((.int .i64))] [.val ((.int .i64)), .val (tySi64)] (m, c, ()) = saboveN fuel m c := by kernel_rfl
theorem saboveO : FOk Try.prog 81 saboveS := fok (G := saboveG) (fn := Try.f81) (A := saboveA) (ctxOk (by kernel_rfl) (by kernel_rfl) trivial) Try.func81 (by kernel_rfl) (by kernel_rfl) fun z r _ h => (sabove_ok _ _ r h).elim fun k hk => ⟨k, (saboveE k z.1 z.2.1).trans hk⟩

def sfitsG : Ctx := { ty := [(22, tyStyTCl), (23, tyStyTTp), (25, tyStyTMt), (28, tyTIm), (35, tyTTp), (38, tyTMt)], fns := [(116, ksubS)], tips := [], n := 28, bxs := [3, 7], ptrs := [] }
def sfitsA : Ann := ⟨[], [], [(2, [[], [], [], [], [], [], [], [5, 6], [5, 6], [5, 6, 7, 8], [5, 6, 7, 8], [5, 6, 7, 8], [5, 6, 7, 8], [], [], []])], []⟩
theorem sfitsE (fuel : Nat) (m : Im) (c : Int) (f : Int) : fnRun sfitsG sfitsA fuel Try.f83 [.val (tyTIm), .val ((.int .i64)), .val ((.int .i64))] [.val (.bool)] (m, c, f, ()) = sfitsN m c f := by kernel_rfl
theorem sfitsO : FOk Try.prog 83 sfitsS := fok (G := sfitsG) (fn := Try.f83) (A := sfitsA) (ctxOk (by kernel_rfl) (by kernel_rfl) ⟨ksubO, trivial⟩) Try.func83 (by kernel_rfl) (by kernel_rfl) fun z r _ h => ⟨0, (sfitsE 0 z.1 z.2.1 z.2.2.1).trans (sfits_ok _ _ _ r h)⟩

def salikeG : Ctx := { ty := [(23, tyStyTTp), (35, tyTTp), (38, tyTMt)], fns := [(77, eqTS)], tips := [], n := 31, bxs := [2, 3], ptrs := [] }
def salikeA : Ann := ⟨[], [], [(1, [[], [], [], [], [], [], [], [], [], [], [], [], [], [], [11, 12, 13], [11, 12, 13], [11, 12, 13], [], [], [], [], [], [20, 21], [20, 21], [], [], []])], []⟩
theorem salikeE (fuel : Nat) (a : Mt) (b : Mt) : fnRun salikeG salikeA fuel Try.f84 [.val (tyTMt), .val (tyTMt)] [.val (.bool)] (a, b, ()) = salikeN a b := by kernel_rfl
theorem salikeO : FOk Try.prog 84 salikeS := fok (G := salikeG) (fn := Try.f84) (A := salikeA) (ctxOk (by kernel_rfl) (by kernel_rfl) ⟨eqTO, trivial⟩) Try.func84 (by kernel_rfl) (by kernel_rfl) fun z r _ h => ⟨0, (salikeE 0 z.1 z.2.1).trans ((salike_eq _ _).trans h)⟩

def sclassG : Ctx := { ty := [(3, (.int .i64)), (22, tyStyTCl), (23, tyStyTTp), (25, tyStyTMt), (26, tySi64), (28, tyTIm), (38, tyTMt), (44, tyTCl), (103, tyStyStyTTp)], fns := [(25, sallS), (81, saboveS), (82, sinS), (83, sfitsS), (84, salikeS)], tips := [], n := 92, bxs := [2, 5], ptrs := [] }
def sclassA : Ann := ⟨[(8, (5, [.val 50 ((.int .i64)) false]))], [], [(10, [[], [0], [0], [0], [], [], [], [], [7], [7, 8], [], [], [], [], [], [14], [14], [], [], [], [], [19, 20], [], [], [19, 20, 21, 22, 23], [19, 20, 21, 22, 23], [19, 20, 21, 22, 23, 24, 25], [19, 20, 21, 22, 23, 24, 25, 26], [19, 20, 21, 22, 23, 24, 25], [19, 20, 21, 22, 23, 24, 25], [19, 20, 21, 22, 23], [19, 20, 21, 22, 23], [], [], [], []])], []⟩
theorem sclassE (fuel : Nat) (m : Im) (c : Int) : fnRun sclassG sclassA fuel Try.f26 [.val (tyTIm), .val ((.int .i64))] [.val (.bool)] (m, c, ()) = sclassN fuel m c := by kernel_rfl
theorem sclassO : FOk Try.prog 26 sclassS := fok (G := sclassG) (fn := Try.f26) (A := sclassA) (ctxOk (by kernel_rfl) (by kernel_rfl) ⟨sallO, saboveO, sinO, sfitsO, salikeO, trivial⟩) Try.func26 (by kernel_rfl) (by kernel_rfl) fun z r _ h => (sclass_ok _ _ r h).elim fun k hk => ⟨k, (sclassE k z.1 z.2.1).trans hk⟩

def sfieldsG : Ctx := { ty := [(22, tyStyTCl), (23, tyStyTTp), (28, tyTIm), (44, tyTCl)], fns := [(81, saboveS)], tips := [], n := 21, bxs := [], ptrs := [] }
def sfieldsA : Ann := ⟨[], [], [], []⟩
theorem sfieldsE (fuel : Nat) (c : Int) (m : Im) : fnRun sfieldsG sfieldsA fuel Try.f85 [.val ((.int .i64)), .cap (tyTIm)] [.val ((.int .i64))] (c, m, ()) = sfieldsN c m := by kernel_rfl
theorem sfieldsO : FOk Try.prog 85 sfieldsS := fok (G := sfieldsG) (fn := Try.f85) (A := sfieldsA) (ctxOk (by kernel_rfl) (by kernel_rfl) ⟨saboveO, trivial⟩) Try.func85 (by kernel_rfl) (by kernel_rfl) fun z r _ h => ⟨0, (sfieldsE 0 z.1 z.2.1).trans (sfields_ok _ _ r h)⟩

def sinstrG : Ctx := { ty := [(3, (.int .i64)), (22, tyStyTCl), (23, tyStyTTp), (24, tySi32), (25, tyStyTMt), (26, tySi64), (28, tyTIm), (36, tyStyTIns), (38, tyTMt), (41, tyTIns), (44, tyTCl)], fns := [(82, sinS), (85, sfieldsS)], tips := [], n := 106, bxs := [4, 5, 6], ptrs := [] }
def sinstrA : Ann := ⟨[], [(4, (2, [.val 19 (.bool) false])), (7, (2, [.val 32 (.bool) false])), (10, (2, [.val 41 (.bool) false])), (13, (2, [.val 50 (.bool) false])), (16, (2, [.val 68 (.bool) false]))], [(15, [[], [], [0, 1], [0, 1], [0, 1], [], [], [], [], [7, 8], [7, 8, 9], [7, 8, 9], [7, 8], [], [], []]), (22, [[], [], [0, 1], [0, 1], [0, 1], [], [], [], [], [7, 8], [7, 8], [7, 8, 9, 10], [7, 8, 9, 10], [7, 8], [7, 8], [7, 8], [7, 8], [], [], []])], []⟩
theorem sinstrE (fuel : Nat) (m : Im) (x : Mt) (i : Ins) (f : Im × Unit) : fnRun sinstrG sinstrA fuel Try.f86 [.val (tyTIm), .val (tyTMt), .val (tyTIns), .val ((.clo 85 (.pair tyTIm .unit)))] [.val (.bool)] (m, x, i, f, ()) = sinstrN m x i f := by kernel_rfl
theorem sinstrO : FOk Try.prog 86 sinstrS := fok (G := sinstrG) (fn := Try.f86) (A := sinstrA) (ctxOk (by kernel_rfl) (by kernel_rfl) ⟨sinO, sfieldsO, trivial⟩) Try.func86 (by kernel_rfl) (by kernel_rfl) fun z r _ h => ⟨0, (sinstrE 0 z.1 z.2.1 z.2.2.1 z.2.2.2.1).trans (sinstr_ok _ _ _ _ r h)⟩

def smethodG : Ctx := { ty := [(23, tyStyTTp), (26, tySi64), (28, tyTIm), (35, tyTTp), (36, tyStyTIns), (38, tyTMt), (41, tyTIns), (103, tyStyStyTTp)], fns := [(25, sallS), (87000086, sinstrS)], tips := [], n := 69, bxs := [2, 3, 7], ptrs := [] }
def smethodA : Ann := ⟨[(7, (5, [.val 58 ((.int .i64)) false]))], [(1, (2, []))], [], []⟩
theorem smethodE (fuel : Nat) (m : Im) (x : Mt) : fnRun smethodG smethodA fuel Try.f27 [.val (tyTIm), .val (tyTMt)] [.val (.bool)] (m, x, ()) = smethodN fuel m x := by kernel_rfl
theorem smethodO : FOk Try.prog 27 smethodS := fok (G := smethodG) (fn := Try.f27) (A := smethodA) (ctxOk (by kernel_rfl) (by kernel_rfl) ⟨sallO, sinstrO, trivial⟩) Try.func27 (by kernel_rfl) (by kernel_rfl) fun z r _ h => (smethod_ok _ _ r h).elim fun k hk => ⟨k, (smethodE k z.1 z.2.1).trans hk⟩

def sentryG : Ctx := { ty := [(3, (.int .i64)), (23, tyStyTTp), (25, tyStyTMt), (28, tyTIm), (35, tyTTp), (38, tyTMt), (71, .any)], fns := [(82, sinS), (87, sentry1S), (91000088, containsEntryS)], tips := [], n := 35, bxs := [2, 5, 6], ptrs := [] }
def sentryA : Ann := ⟨[], [], [], []⟩
theorem sentryE (fuel : Nat) (m : Im) (f : Int) : fnRun sentryG sentryA fuel Try.f28 [.val (tyTIm), .val ((.int .i64))] [.val (.bool)] (m, f, ()) = sentryN m f := by kernel_rfl
theorem sentryO : FOk Try.prog 28 sentryS := fok (G := sentryG) (fn := Try.f28) (A := sentryA) (ctxOk (by kernel_rfl) (by kernel_rfl) ⟨sinO, sentry1O, containsEntryO, trivial⟩) Try.func28 (by kernel_rfl) (by kernel_rfl) fun z r _ h => ⟨0, (sentryE 0 z.1 z.2.1).trans (sentry_ok _ _ r h)⟩

def scheckG : Ctx := { ty := [(3, (.int .i64)), (22, tyStyTCl), (23, tyStyTTp), (25, tyStyTMt), (26, tySi64), (28, tyTIm), (38, tyTMt), (103, tyStyStyTTp)], fns := [(19, ifitsS), (25, sallS), (26, sclassS), (27, smethodS), (28, sentryS)], tips := [], n := 52, bxs := [1, 5], ptrs := [] }
def scheckA : Ann := ⟨[(6, (5, [.val 20 ((.int .i64)) false])), (12, (5, [.val 31 ((.int .i64)) false])), (18, (5, [.val 43 ((.int .i64)) false]))], [], [], []⟩
theorem scheckE (fuel : Nat) (m : Im) : fnRun scheckG scheckA fuel Try.f13 [.val (tyTIm)] [.val ((.int .i64))] (m, ()) = scheckN fuel m := by kernel_rfl
theorem scheckO : FOk Try.prog 13 scheckS := fok (G := scheckG) (fn := Try.f13) (A := scheckA) (ctxOk (by kernel_rfl) (by kernel_rfl) ⟨ifitsO, sallO, sclassO, smethodO, sentryO, trivial⟩) Try.func13 (by kernel_rfl) (by kernel_rfl) fun z r hl h => (scheck_eq _ hl).elim fun k hk => ⟨k, (scheckE k z.1).trans (hk.trans h)⟩

def awake6G : Ctx := { ty := [(25, tyStyTMt), (26, tySi64), (28, tyTIm), (35, tyTTp), (36, tyStyTIns), (38, tyTMt), (41, tyTIns)], fns := [(13, scheckS), (18, r5fitsS)], tips := [], n := 31, bxs := [1], ptrs := [] }
def awake6A : Ann := ⟨[], [], [], []⟩
theorem awake6E (fuel : Nat) : fnRun awake6G awake6A fuel Try.f12 [] [.val (.bool)] () = awake6N := by kernel_rfl
theorem awake6O : FOk Try.prog 12 awake6S := fok (G := awake6G) (fn := Try.f12) (A := awake6A) (ctxOk (by kernel_rfl) (by kernel_rfl) ⟨scheckO, r5fitsO, trivial⟩) Try.func12 (by kernel_rfl) (by kernel_rfl) fun z r _ h => ⟨0, (awake6E 0).trans h⟩

def small6G : Ctx := { ty := [(22, tyStyTCl), (23, tyStyTTp), (24, tySi32), (25, tyStyTMt), (26, tySi64), (28, tyTIm), (36, tyStyTIns), (38, tyTMt)], fns := [], tips := [], n := 53, bxs := [1, 4], ptrs := [] }
def small6A : Ann := ⟨[(4, (5, [.val 3 ((.int .i64)) false]))], [], [], []⟩
theorem small6E (fuel : Nat) (m : Im) : fnRun small6G small6A fuel Try.f11 [.val (tyTIm)] [.val (.bool)] (m, ()) = small6N fuel m := by kernel_rfl
theorem small6O : FOk Try.prog 11 small6S := fok (G := small6G) (fn := Try.f11) (A := small6A) (ctxOk (by kernel_rfl) (by kernel_rfl) trivial) Try.func11 (by kernel_rfl) (by kernel_rfl) fun z r hl h => (small6_eq _ hl).elim fun k hk => ⟨k, (small6E k z.1).trans (hk.trans h)⟩

def saneChecksG : Ctx := { ty := [(28, tyTIm)], fns := [(11, small6S), (12, awake6S), (13, scheckS), (14, r5saneS)], tips := [], n := 15, bxs := [1], ptrs := [] }
def saneChecksA : Ann := ⟨[], [], [(3, [[], [], [], [], [2, 3], [], [], [], []])], []⟩
theorem saneChecksE (fuel : Nat) (m : Im) : fnRun saneChecksG saneChecksA fuel Try.f3 [.val (tyTIm)] [.val (.bool)] (m, ()) = saneChecksN m := by kernel_rfl
theorem saneChecksC (hl : ∀ z, WfAll Try.prog saneChecksT z → saneChecksN z.1 = some (true, ())) : FOk Try.prog 3 saneChecksS := fok (G := saneChecksG) (fn := Try.f3) (A := saneChecksA) (ctxOk (by kernel_rfl) (by kernel_rfl) ⟨small6O, awake6O, scheckO, r5saneO, trivial⟩) Try.func3 (by kernel_rfl) (by kernel_rfl) fun z r _ h => by
  by_cases hw : WfAll Try.prog saneChecksT z
  · refine ⟨0, (saneChecksE 0 z.1).trans ((hl z hw).trans ?_)⟩
    rw [← h]
    exact (if_pos hw).symm
  · have hn : saneChecksS.run z = none := if_neg hw
    rw [hn] at h
    cases h

def sanePartsG : Ctx := { ty := [(4, .bool), (22, tyStyTCl), (23, tyStyTTp), (24, tySi32), (26, tySi64), (28, tyTIm), (35, tyTTp), (44, tyTCl)], fns := [(11, small6S), (12, awake6S), (13, scheckS)], tips := [], n := 74, bxs := [2, 5], ptrs := [] }
def sanePartsA : Ann := ⟨[], [], [(9, [[], [], [], [0, 1, 2], [0, 1, 2], [0, 1, 2], [0, 1, 2], []]), (13, [[], [], [], [0, 1, 2], [0, 1, 2], [0, 1, 2], [0, 1, 2], []]), (17, [[], [], [], [], [], [2, 3, 4], [2, 3, 4], [2, 3, 4], [2, 3, 4], [], [], []])], []⟩
theorem sanePartsE (fuel : Nat) (m : Im) (n : Int) : fnRun sanePartsG sanePartsA fuel Try.f5 [.val (tyTIm), .val ((.int .i32))] [.val (.bool)] (m, n, ()) = sanePartsN m n := by kernel_rfl
theorem sanePartsC (hl : ∀ z, WfAll Try.prog sanePartsT z → sanePartsN z.1 z.2.1 = some (true, ())) : FOk Try.prog 5 sanePartsS := fok (G := sanePartsG) (fn := Try.f5) (A := sanePartsA) (ctxOk (by kernel_rfl) (by kernel_rfl) ⟨small6O, awake6O, scheckO, trivial⟩) Try.func5 (by kernel_rfl) (by kernel_rfl) fun z r _ h => by
  by_cases hw : WfAll Try.prog sanePartsT z
  · refine ⟨0, (sanePartsE 0 z.1 z.2.1).trans ((hl z hw).trans ?_)⟩
    rw [← h]
    exact (if_pos hw).symm
  · have hn : sanePartsS.run z = none := if_neg hw
    rw [hn] at h
    cases h

def awake5G : Ctx := { ty := [(24, tySi32), (25, tyStyTMt), (26, tySi64), (28, tyTIm), (35, tyTTp), (36, tyStyTIns), (38, tyTMt), (41, tyTIns), (46, tySu8)], fns := [(17, iencodeS), (19, ifitsS), (21, idecodeS), (22, r5sameS), (24, isameS)], tips := [], n := 57, bxs := [1, 4, 6], ptrs := [] }
def awake5A : Ann := ⟨[], [], [], []⟩
theorem awake5E (fuel : Nat) : fnRun awake5G awake5A fuel Try.f16 [] [.val (.bool)] () = awake5N := by kernel_rfl
theorem awake5O : FOk Try.prog 16 awake5S := fok (G := awake5G) (fn := Try.f16) (A := awake5A) (ctxOk (by kernel_rfl) (by kernel_rfl) ⟨iencodeO, ifitsO, idecodeO, r5sameO, isameO, trivial⟩) Try.func16 (by kernel_rfl) (by kernel_rfl) fun z r _ h => ⟨0, (awake5E 0).trans h⟩

def small5G : Ctx := { ty := [(22, tyStyTCl), (23, tyStyTTp), (24, tySi32), (25, tyStyTMt), (26, tySi64), (28, tyTIm), (36, tyStyTIns), (38, tyTMt), (44, tyTCl)], fns := [], tips := [], n := 77, bxs := [1, 4], ptrs := [] }
def small5A : Ann := ⟨[(4, (5, [.val 3 ((.int .i64)) false])), (10, (4, [.val 5 ((.int .i64)) false]))], [], [(12, [[], [], [0, 1], [], [], [], [], [0, 1, 2, 3, 4, 5, 6], [0, 1, 2, 3, 4, 5, 6], [0, 1, 2, 3, 4, 5, 6, 7, 8], [0, 1, 2, 3, 4, 5, 6], [0, 1, 2, 3, 4, 5, 6], [0, 1, 2, 3, 4, 5, 6], [0, 1, 2, 3, 4, 5, 6], [], []])], []⟩
theorem small5E (fuel : Nat) (m : Im) : fnRun small5G small5A fuel Try.f15 [.val (tyTIm)] [.val (.bool)] (m, ()) = small5N fuel m := by kernel_rfl
theorem small5O : FOk Try.prog 15 small5S := fok (G := small5G) (fn := Try.f15) (A := small5A) (ctxOk (by kernel_rfl) (by kernel_rfl) trivial) Try.func15 (by kernel_rfl) (by kernel_rfl) fun z r hl h => (small5_eq _ hl).elim fun k hk => ⟨k, (small5E k z.1).trans (hk.trans h)⟩

def imageEncodesG : Ctx := { ty := [(9, .str), (28, tyTIm), (46, tySu8)], fns := [(15, small5S), (16, awake5S), (17, iencodeS), (18, r5fitsS), (19, ifitsS), (20, r5encodeS), (21, idecodeS), (22, r5sameS)], tips := [], n := 80, bxs := [1, 6], ptrs := [] }
def imageEncodesA : Ann := ⟨[], [], [], []⟩
theorem imageEncodesE (fuel : Nat) (m : Im) : fnRun imageEncodesG imageEncodesA fuel Try.f6 [.val (tyTIm)] [.val (.bool)] (m, ()) = imageEncodesN m := by kernel_rfl
theorem imageEncodesC (hl : ∀ z, WfAll Try.prog imageEncodesT z → imageEncodesN z.1 = some (true, ())) : FOk Try.prog 6 imageEncodesS := fok (G := imageEncodesG) (fn := Try.f6) (A := imageEncodesA) (ctxOk (by kernel_rfl) (by kernel_rfl) ⟨small5O, awake5O, iencodeO, r5fitsO, ifitsO, r5encodeO, idecodeO, r5sameO, trivial⟩) Try.func6 (by kernel_rfl) (by kernel_rfl) fun z r _ h => by
  by_cases hw : WfAll Try.prog imageEncodesT z
  · refine ⟨0, (imageEncodesE 0 z.1).trans ((hl z hw).trans ?_)⟩
    rw [← h]
    exact (if_pos hw).symm
  · have hn : imageEncodesS.run z = none := if_neg hw
    rw [hn] at h
    cases h

def imageDecodesG : Ctx := { ty := [(9, .str), (28, tyTIm), (46, tySu8)], fns := [(16, awake5S), (18, r5fitsS), (20, r5encodeS), (21, idecodeS), (22, r5sameS)], tips := [], n := 45, bxs := [3], ptrs := [] }
def imageDecodesA : Ann := ⟨[], [(1, (2, [.val 0 (tySu8) false]))], [(6, [[], [], [], [], [], [], [], [], [], [6, 7, 8], [6, 7, 8], [], [], [], [], [], [], [], []])], []⟩
theorem imageDecodesE (fuel : Nat) (b : List Int) : fnRun imageDecodesG imageDecodesA fuel Try.f7 [.val (tySu8)] [.val (.bool)] (b, ()) = imageDecodesN b := by kernel_rfl
theorem imageDecodesC (hl : ∀ z, WfAll Try.prog imageDecodesT z → imageDecodesN z.1 = some (true, ())) : FOk Try.prog 7 imageDecodesS := fok (G := imageDecodesG) (fn := Try.f7) (A := imageDecodesA) (ctxOk (by kernel_rfl) (by kernel_rfl) ⟨awake5O, r5fitsO, r5encodeO, idecodeO, r5sameO, trivial⟩) Try.func7 (by kernel_rfl) (by kernel_rfl) fun z r _ h => by
  by_cases hw : WfAll Try.prog imageDecodesT z
  · refine ⟨0, (imageDecodesE 0 z.1).trans ((hl z hw).trans ?_)⟩
    rw [← h]
    exact (if_pos hw).symm
  · have hn : imageDecodesS.run z = none := if_neg hw
    rw [hn] at h
    cases h

def imageCutsG : Ctx := { ty := [(3, (.int .i64)), (4, .bool), (28, tyTIm), (46, tySu8), (55, (.int .u16))], fns := [(15, small5S), (16, awake5S), (17, iencodeS), (21, idecodeS)], tips := [], n := 72, bxs := [3, 9, 11], ptrs := [] }
def imageCutsA : Ann := ⟨[], [], [], []⟩
theorem imageCutsE (fuel : Nat) (m : Im) (a : Int) (x : List Int) : fnRun imageCutsG imageCutsA fuel Try.f10 [.val (tyTIm), .val ((.int .u16)), .val (tySu8)] [.val (.bool)] (m, a, x, ()) = imageCutsN m a x := by kernel_rfl
theorem imageCutsC (hl : ∀ z, WfAll Try.prog imageCutsT z → imageCutsN z.1 z.2.1 z.2.2.1 = some (true, ())) : FOk Try.prog 10 imageCutsS := fok (G := imageCutsG) (fn := Try.f10) (A := imageCutsA) (ctxOk (by kernel_rfl) (by kernel_rfl) ⟨small5O, awake5O, iencodeO, idecodeO, trivial⟩) Try.func10 (by kernel_rfl) (by kernel_rfl) fun z r _ h => by
  by_cases hw : WfAll Try.prog imageCutsT z
  · refine ⟨0, (imageCutsE 0 z.1 z.2.1 z.2.2.1).trans ((hl z hw).trans ?_)⟩
    rw [← h]
    exact (if_pos hw).symm
  · have hn : imageCutsS.run z = none := if_neg hw
    rw [hn] at h
    cases h

end Go.Pli
