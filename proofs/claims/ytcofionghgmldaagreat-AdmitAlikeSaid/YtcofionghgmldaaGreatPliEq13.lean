import Derived.Test.YtcofionghgmldaaGreatPliL13E
import Derived.Test.YtcofionghgmldaaGreatPMSort
import Derived.Test.YtcofionghgmldaaGreatPliReach
import Derived.Test.YtcofionghgmldaaGreatPliLib13
import Derived.Test.YtcofionghgmldaaGreatPMKit
import Derived.Test.YtcofionghgmldaaGreatPMSaid
import Derived.Test.YtcofionghgmldaaGreatProg
import Derived.KernelRfl
namespace Go.Pli
open Go Go.PM
open Go.Proofs
def A0 : Ann := ⟨[], [], [], []⟩
theorem fk {G : Ctx} {f : FuncId} {fn : Func} {A : Ann} {S : FSpec} (h3 : FnsOk Tryz.prog G.fns) (hf : Tryz.prog.funcs[f]? = some fn) (h : ∀ z r, LenAll S.ps z → S.run z = some r → ∃ k, fnRun G A k fn S.ps S.rs z = some r) (h1 : tabB Tryz.prog G.ty = true := by kernel_rfl) (h2 : G.ptrs.all (ptrB Tryz.prog) = true := by kernel_rfl) (hb : fn.body.isSome = true := by kernel_rfl) (hn : (fn.name == "runtime.NumGoroutine") = false := by kernel_rfl) (h4 : G.sets.all (setB Tryz.prog) = true := by rfl) : FOk Tryz.prog f S := fok (ctxOk h1 h2 h3 h4) hf hb hn h
abbrev tyTTp : Ty := .pair (.int .i64) (.pair (.int .i64) .unit)
abbrev tyStyTTp : Ty := .sl 39 tyTTp
abbrev tySi64 : Ty := .sl 3 (.int .i64)
abbrev tyTCl : Ty := .pair (.int .i64) (.pair tyStyTTp (.pair tySi64 .unit))
abbrev tyStyTCl : Ty := .sl 106 tyTCl
abbrev tyTIns : Ty := .pair (.int .i64) tyTTp
abbrev tyStyTIns : Ty := .sl 45 tyTIns
abbrev tyTMt : Ty := .pair tyStyTTp (.pair tyStyTTp (.pair tyTTp (.pair tyStyTIns (.pair (.int .i64) (.pair (.int .i64) (.pair tySi64 .unit))))))
abbrev tyStyTMt : Ty := .sl 42 tyTMt
abbrev tySu8 : Ty := .sl 5 (.int .u8)
abbrev tySi32 : Ty := .sl 21 (.int .i32)
abbrev tyTIm : Ty := .pair tyStyTCl (.pair tyStyTTp (.pair tySi32 (.pair tyStyTMt (.pair tySi64 tyTTp))))
abbrev tyStyStyTTp : Ty := .sl 23 tyStyTTp
abbrev tyStySi64 : Ty := .sl 26 tySi64
abbrev tyTSh : Ty := .pair .bool (.pair tyStyTTp .unit)
abbrev tyStyTSh : Ty := .sl 52 tyTSh
abbrev tyStyStyTSh : Ty := .sl 53 tyStyTSh
abbrev tyTIq : Ty := .pair tySi64 (.pair (.int .i64) .unit)
abbrev tyStyTIq : Ty := .sl 49 tyTIq
abbrev tySbool : Ty := .sl 4 .bool
abbrev tyStyTTp_ : Ty := .sl 188 tyTTp
noncomputable section
def indexClassS : FSpec := ⟨[.val (tyStyTCl), .val ((.clo 158 .unit))], [.val ((.int .i64))], fun z => some (indexClass z.1 z.2.1, ())⟩
def containsClassS : FSpec := ⟨[.val (tyStyTCl), .val ((.clo 158 .unit))], [.val (.bool)], fun z => some (containsClass z.1 z.2.1, ())⟩
def indexMethodS : FSpec := ⟨[.val (tyStyTMt), .val ((.clo 161 .unit))], [.val ((.int .i64))], fun z => some (indexMethod z.1 z.2.1, ())⟩
def containsMethodS : FSpec := ⟨[.val (tyStyTMt), .val ((.clo 161 .unit))], [.val (.bool)], fun z => some (containsMethod z.1 z.2.1, ())⟩
def indexTypesS : FSpec := ⟨[.val (tyStyTTp), .val ((.clo 196 .unit))], [.val ((.int .i64))], fun z => some (indexTypes z.1 z.2.1, ())⟩
def containsTypesS : FSpec := ⟨[.val (tyStyTTp), .val ((.clo 196 .unit))], [.val (.bool)], fun z => some (containsTypes z.1 z.2.1, ())⟩
def indexEntryS : FSpec := ⟨[.val (tyStyTTp), .val ((.clo 174 (.pair (.clo 172 .unit) .unit)))], [.val ((.int .i64))], fun z => some (indexEntry z.1 z.2.1, ())⟩
def containsEntryS : FSpec := ⟨[.val (tyStyTTp), .val ((.clo 174 (.pair (.clo 172 .unit) .unit)))], [.val (.bool)], fun z => some (containsEntry z.1 z.2.1, ())⟩
def indexNumsS : FSpec := ⟨[.val (tySi64), .val ((.clo 201 (.pair (.int .i64) .unit)))], [.val ((.int .i64))], fun z => some (indexNums z.1 z.2.1, ())⟩
def containsNumsS : FSpec := ⟨[.val (tySi64), .val ((.clo 201 (.pair (.int .i64) .unit)))], [.val (.bool)], fun z => some (containsNums z.1 z.2.1, ())⟩
def newS : FSpec := ⟨[.val (tySu8)], [.box 204 ((.pair tySu8 (.pair .bool .unit)))], fun z => some (newN z.1, ())⟩
def nextS : FSpec := ⟨[.box 204 ((.pair tySu8 (.pair .bool .unit)))], [.val ((.int .u64)), .val (.bool)], fun z => next z.1⟩
def getS : FSpec := ⟨[.box 204 ((.pair tySu8 (.pair .bool .unit))), .val ((.int .i64))], [.val ((.int .i64))], fun z => getN z.1 z.2.1⟩
def glongS : FSpec := ⟨[.box 204 ((.pair tySu8 (.pair .bool .unit)))], [.val ((.int .i32))], fun z => glongN z.1⟩
def finS : FSpec := ⟨[.box 204 ((.pair tySu8 (.pair .bool .unit)))], [.val (.bool)], fun z => finN z.1⟩
def rbytesS : FSpec := ⟨[.val ((.int .i64))], [.tip (tySu8)], fun z => rbytes z.1⟩
def rsignedS : FSpec := ⟨[.val ((.int .i32))], [.tip (tySu8)], fun z => rsignedN z.1⟩
def rinS : FSpec := ⟨[.val (tySi64), .val ((.int .i64))], [.val (.bool)], fun z => rin z.1 z.2.1⟩
def rargsS : FSpec := ⟨[.val ((.int .i64))], [.val ((.int .i64))], fun z => some (rargs z.1, ())⟩
def iargsS : FSpec := ⟨[.val ((.int .i64))], [.val ((.int .i64))], fun z => some (iargs z.1, ())⟩
def withinS : FSpec := ⟨[.val ((.int .i64)), .val ((.int .i64)), .val ((.int .i64))], [.val (.bool)], fun z => some (within z.1 z.2.1 z.2.2.1, ())⟩
def igoodS : FSpec := ⟨[.val (tyTIns)], [.val (.bool)], fun z => some (igood z.1, ())⟩
def igetS : FSpec := ⟨[.box 204 ((.pair tySu8 (.pair .bool .unit)))], [.val (tyTIns)], fun z => igetN z.1⟩
def rinstrS : FSpec := ⟨[.val (tyTIns)], [.val (.bool)], fun z => some (rinstr z.1, ())⟩
def clipCS : FSpec := ⟨[.val (tyStyTCl)], [.val (tyStyTCl)], fun z => some (idL z.1, ())⟩
def clipMS : FSpec := ⟨[.val (tyStyTMt)], [.val (tyStyTMt)], fun z => some (idL z.1, ())⟩
def clipTS : FSpec := ⟨[.val (tyStyTTp)], [.val (tyStyTTp)], fun z => some (idL z.1, ())⟩
def clipIS : FSpec := ⟨[.val (tySi64)], [.val (tySi64)], fun z => some (idL z.1, ())⟩
def clipXS : FSpec := ⟨[.val (tyStyTIns)], [.val (tyStyTIns)], fun z => some (idL z.1, ())⟩
def clipJS : FSpec := ⟨[.val (tySi32)], [.val (tySi32)], fun z => some (idL z.1, ())⟩
def cloneTS : FSpec := ⟨[.val (tyStyTTp)], [.val (tyStyTTp)], fun z => cloneTN z.1⟩
def cloneJS : FSpec := ⟨[.val (tySi32)], [.val (tySi32)], fun z => cloneJN z.1⟩
def cloneIS : FSpec := ⟨[.val (tySi64)], [.val (tySi64)], fun z => cloneIN z.1⟩
def cloneXS : FSpec := ⟨[.val (tyStyTIns)], [.val (tyStyTIns)], fun z => cloneXN z.1⟩
def anTS : FSpec := ⟨[.val (tyStyTTp)], [.val (tyStyTTp)], fun z => anTN z.1⟩
def anJS : FSpec := ⟨[.val (tySi32)], [.val (tySi32)], fun z => anJN z.1⟩
def anIS : FSpec := ⟨[.val (tySi64)], [.val (tySi64)], fun z => anIN z.1⟩
def anXS : FSpec := ⟨[.val (tyStyTIns)], [.val (tyStyTIns)], fun z => anXN z.1⟩
def eqTS : FSpec := ⟨[.val (tyStyTTp), .val (tyStyTTp)], [.val (.bool)], fun z => some (eqL z.1 z.2.1, ())⟩
def iwithinS : FSpec := ⟨[.val ((.int .i64)), .val ((.int .i64))], [.val (.bool)], fun z => some (iwithin z.1 z.2.1, ())⟩
def itypS : FSpec := ⟨[.val (tyTTp)], [.val (.bool)], fun z => some (ityp z.1, ())⟩
def ityp1S : FSpec := ⟨[.val (tyTTp)], [.val (.bool)], fun z => some (ityp1 z.1, ())⟩
def itypesS : FSpec := ⟨[.val (tyStyTTp), .val ((.int .i64))], [.val (.bool)], fun z => some (itypes z.1 z.2.1, ())⟩
def inum1S : FSpec := ⟨[.val ((.int .i64)), .cap ((.int .i64))], [.val (.bool)], fun z => some (inum1 z.1 z.2.1, ())⟩
def inumsS : FSpec := ⟨[.val (tySi64), .val ((.int .i64)), .val ((.int .i64))], [.val (.bool)], fun z => some (inums z.1 z.2.1 z.2.2.1, ())⟩
def imethodS : FSpec := ⟨[.val (tyTMt)], [.val (.bool)], fun z => some (imethod z.1, ())⟩
def iclassS : FSpec := ⟨[.val (tyTCl)], [.val (.bool)], fun z => some (iclass z.1, ())⟩
def ifits1S : FSpec := ⟨[.val (tyTCl)], [.val (.bool)], fun z => some (ifits1 z.1, ())⟩
def ifits2S : FSpec := ⟨[.val (tyTMt)], [.val (.bool)], fun z => some (ifits2 z.1, ())⟩
def ifitsS : FSpec := ⟨[.val (tyTIm)], [.val (.bool)], fun z => some (ifits z.1, ())⟩
def getTypeS : FSpec := ⟨[.box 204 ((.pair tySu8 (.pair .bool .unit)))], [.val (tyTTp)], fun z => getType z.1⟩
def getTypesS : FSpec := ⟨[.box 204 ((.pair tySu8 (.pair .bool .unit))), .val ((.int .i64))], [.val (tyStyTTp)], fun z => getTypes z.1 z.2.1⟩
def getNumsS : FSpec := ⟨[.box 204 ((.pair tySu8 (.pair .bool .unit))), .val ((.int .i64)), .val ((.int .i64))], [.val (tySi64)], fun z => getNums z.1 z.2.1 z.2.2.1⟩
def getMethodS : FSpec := ⟨[.box 204 ((.pair tySu8 (.pair .bool .unit)))], [.val (tyTMt)], fun z => getMethod z.1⟩
def idecodeS : FSpec := ⟨[.val (tySu8)], [.val (tyTIm), .val ((.int .i64))], fun z => idecode z.1⟩
def icopyS : FSpec := ⟨[.val (tyTIm)], [.val (tyTIm)], fun z => icopy z.1⟩
def kgoodS : FSpec := ⟨[.val (tyTTp), .val ((.int .i64))], [.val (.bool)], fun z => some (kgood z.1 z.2.1, ())⟩
def kisrefS : FSpec := ⟨[.val (tyTTp)], [.val (.bool)], fun z => some (kisref z.1, ())⟩
def kupS : FSpec := ⟨[.val (tyStyTCl), .val ((.int .i64))], [.val ((.int .i64))], fun z => some (kup z.1 z.2.1, ())⟩
def kbelowS : FSpec := ⟨[.val (tyStyTCl), .val ((.int .i64)), .val ((.int .i64))], [.val (.bool)], fun z => some (kbelow z.1 z.2.1 z.2.2.1, ())⟩
def ksubS : FSpec := ⟨[.val (tyStyTCl), .val (tyTTp), .val (tyTTp)], [.val (.bool)], fun z => some (ksub z.1 z.2.1 z.2.2.1, ())⟩
def raboveS : FSpec := ⟨[.val (tyStyTCl), .val ((.int .i64))], [.val (tySi64)], fun z => rabove z.1 z.2.1⟩
def rtypesS : FSpec := ⟨[.val (tyStyTTp), .val (tyStyTTp)], [.val (.bool)], fun z => some (rtypes z.1 z.2.1, ())⟩
def rintsS : FSpec := ⟨[.val (tySi64), .val (tySi64)], [.val (.bool)], fun z => some (rints z.1 z.2.1, ())⟩
def r5inS : FSpec := ⟨[.val ((.int .i64)), .val ((.int .i64)), .val ((.int .i64))], [.val (.bool)], fun z => some (r5in z.1 z.2.1 z.2.2.1, ())⟩
def r5listS : FSpec := ⟨[.val (tySi64), .val ((.int .i64)), .val ((.int .i64))], [.val (.bool)], fun z => some (r5list z.1 z.2.1 z.2.2.1, ())⟩
def r5typS : FSpec := ⟨[.val (tyTTp)], [.val (.bool)], fun z => some (r5typ z.1, ())⟩
def r5typesS : FSpec := ⟨[.val (tyStyTTp), .val ((.int .i64))], [.val (.bool)], fun z => some (r5types z.1 z.2.1, ())⟩
def r5fitsS : FSpec := ⟨[.val (tyTIm)], [.val (.bool)], fun z => some (r5fits z.1, ())⟩
def r5numsS : FSpec := ⟨[.val (tySi64)], [.tip (tySu8)], fun z => r5nums z.1⟩
def r5oneS : FSpec := ⟨[.val (tyTTp)], [.tip (tySu8)], fun z => r5one z.1⟩
def r5severalS : FSpec := ⟨[.val (tyStyTTp)], [.tip (tySu8)], fun z => r5several z.1⟩
def r5encodeS : FSpec := ⟨[.val (tyTIm)], [.tip (tySu8)], fun z => r5encode z.1⟩
def r5sameS : FSpec := ⟨[.val (tyTIm), .val (tyTIm)], [.val (.bool)], fun z => some (r5same z.1 z.2.1, ())⟩
def r5fieldsS : FSpec := ⟨[.val (tyTIm), .val ((.int .i64))], [.tip (tyStyTTp)], fun z => r5fields z.1 z.2.1⟩
def sinS : FSpec := ⟨[.val ((.int .i64)), .val ((.int .i64))], [.val (.bool)], fun z => some (sin z.1 z.2.1, ())⟩
def sallS : FSpec := ⟨[.val (tyTIm), .val (tyStyStyTTp)], [.val (.bool)], fun z => some (sall z.1 z.2.1, ())⟩
def saboveS : FSpec := ⟨[.val (tyTIm), .val ((.int .i64))], [.val ((.int .i64)), .val (tySi64)], fun z => sabove z.1 z.2.1⟩
def sfitsS : FSpec := ⟨[.val (tyTIm), .val ((.int .i64)), .val ((.int .i64))], [.val (.bool)], fun z => sfits z.1 z.2.1 z.2.2.1⟩
def salikeS : FSpec := ⟨[.val (tyTMt), .val (tyTMt)], [.val (.bool)], fun z => some (salike z.1 z.2.1, ())⟩
def sclassS : FSpec := ⟨[.val (tyTIm), .val ((.int .i64))], [.val (.bool)], fun z => sclass z.1 z.2.1⟩
def sfieldsS : FSpec := ⟨[.val ((.int .i64)), .cap (tyTIm)], [.val ((.int .i64))], fun z => sfields z.1 z.2.1⟩
def sinstrS : FSpec := ⟨[.val (tyTIm), .val (tyTMt), .val (tyTIns), .val ((.clo 170 (.pair tyTIm .unit)))], [.val (.bool)], fun z => sinstr z.1 z.2.1 z.2.2.1 z.2.2.2.1⟩
def smethodS : FSpec := ⟨[.val (tyTIm), .val (tyTMt)], [.val (.bool)], fun z => smethod z.1 z.2.1⟩
def sentry1S : FSpec := ⟨[.val (tyTTp)], [.val (.bool)], fun z => some (sentry1 z.1, ())⟩
def sentry2S : FSpec := ⟨[.val (tyTTp), .cap ((.clo 172 .unit))], [.val (.bool)], fun z => some (sentry2 z.1 z.2.1, ())⟩
def sentryS : FSpec := ⟨[.val (tyTIm), .val ((.int .i64))], [.val (.bool)], fun z => sentry z.1 z.2.1⟩
def scheckS : FSpec := ⟨[.val (tyTIm)], [.val ((.int .i64))], fun z => some (scheck z.1, ())⟩
def sortIS : FSpec := ⟨[.own 3 ((.int .i64))], [], fun z => some (sortI z.1)⟩
def compactIS : FSpec := ⟨[.take 3 ((.int .i64))], [.own 3 ((.int .i64))], fun z => some (compactI z.1, ())⟩
def cbelowS : FSpec := ⟨[.val (tyTIm), .val ((.int .i64))], [.val (tySi64)], fun z => cbelow z.1 z.2.1⟩
def cslotS : FSpec := ⟨[.val (tyTIm), .val ((.int .i64)), .val ((.int .i64))], [.val ((.int .i64)), .val (.bool)], fun z => some (cslot z.1 z.2.1 z.2.2.1)⟩
def ctargetsS : FSpec := ⟨[.val (tyTIm), .val (tyTIns)], [.tip (tySi64)], fun z => ctargets z.1 z.2.1⟩
def cofS : FSpec := ⟨[.val (tyTIm), .val ((.int .i64))], [.val (tySi64)], fun z => cof z.1 z.2.1⟩
def r5belowS : FSpec := ⟨[.val (tyTIm), .val ((.int .i64))], [.tip (tySi64)], fun z => r5below z.1 z.2.1⟩
def r5slotS : FSpec := ⟨[.val (tyTIm), .val ((.int .i64)), .val ((.int .i64))], [.val ((.int .i64)), .val (.bool)], fun z => some (r5slot z.1 z.2.1 z.2.2.1)⟩
def r8targetsS : FSpec := ⟨[.val (tyTIm), .val (tyTIns)], [.tip (tySi64)], fun z => r8targets z.1 z.2.1⟩
def r8callsS : FSpec := ⟨[.val (tyTIm), .val ((.int .i64)), .val ((.int .i64))], [.val (.bool)], fun z => r8calls z.1 z.2.1 z.2.2.1⟩
def r8edgesS : FSpec := ⟨[.val (tyTIm)], [.val (tyStySi64)], fun z => r8edges z.1⟩
def fenterS : FSpec := ⟨[.box 155 ((.pair tyStySi64 (.pair (.osl 3 (.int .i64)) (.pair (.osl 3 (.int .i64)) (.pair (.osl 4 .bool) (.pair (.osl 3 (.int .i64)) (.pair (.int .i64) (.pair (.osl 26 tySi64) .unit)))))))), .val ((.int .i64))], [], fun z => fenterN z.1 z.2.1⟩
def fleaveS : FSpec := ⟨[.box 155 ((.pair tyStySi64 (.pair (.osl 3 (.int .i64)) (.pair (.osl 3 (.int .i64)) (.pair (.osl 4 .bool) (.pair (.osl 3 (.int .i64)) (.pair (.int .i64) (.pair (.osl 26 tySi64) .unit)))))))), .val ((.int .i64))], [], fun z => fleave z.1 z.2.1⟩
def ffromS : FSpec := ⟨[.box 155 ((.pair tyStySi64 (.pair (.osl 3 (.int .i64)) (.pair (.osl 3 (.int .i64)) (.pair (.osl 4 .bool) (.pair (.osl 3 (.int .i64)) (.pair (.int .i64) (.pair (.osl 26 tySi64) .unit)))))))), .val ((.int .i64))], [], fun z => ffrom z.1 z.2.1⟩
def clipIOS : FSpec := ⟨[.take 3 ((.int .i64))], [.own 3 ((.int .i64))], fun z => some (idL z.1, ())⟩
def clipIIOS : FSpec := ⟨[.take 26 (tySi64)], [.own 26 (tySi64)], fun z => some (idL z.1, ())⟩
def ringsS : FSpec := ⟨[.val (tyStySi64)], [.val (tyStySi64)], fun z => rings z.1⟩
def tdeepS : FSpec := ⟨[.val (tyStyStyTSh), .val ((.int .i64))], [.val ((.int .i64))], fun z => tdeep z.1 z.2.1⟩
def dframeS : FSpec := ⟨[.val (tyTIm), .val (tyStyStyTSh), .val ((.int .i64))], [.val ((.int .i64))], fun z => dframeN z.1 z.2.1 z.2.2.1⟩
def growTS : FSpec := ⟨[.nilp true, .val ((.int .i64))], [.own 39 (tyTTp)], fun z => growT z.1 z.2.1⟩
def concatTS : FSpec := ⟨[.val (tyStyStyTTp)], [.val (tyStyTTp)], fun z => concatT z.1⟩
def indexIS : FSpec := ⟨[.val (tySi64), .val ((.int .i64))], [.val ((.int .i64))], fun z => some (indexI z.1 z.2.1, ())⟩
def containsIS : FSpec := ⟨[.val (tySi64), .val ((.int .i64))], [.val (.bool)], fun z => some (containsI z.1 z.2.1, ())⟩
def clipQS : FSpec := ⟨[.val (tyStyTIq)], [.val (tyStyTIq)], fun z => some (idL z.1, ())⟩
def clipSSS : FSpec := ⟨[.val (tyStyStyTSh)], [.val (tyStyStyTSh)], fun z => some (idL z.1, ())⟩
def cupS : FSpec := ⟨[.val (tyTIm), .val ((.int .i64))], [.val ((.int .i64))], fun z => cup z.1 z.2.1⟩
def cfieldsS : FSpec := ⟨[.val (tyTIm), .val ((.int .i64))], [.val (tyStyTTp)], fun z => cfields z.1 z.2.1⟩
def csizeS : FSpec := ⟨[.val (tyTIm), .val ((.int .i64))], [.val ((.int .i64))], fun z => csize z.1 z.2.1⟩
def clocalS : FSpec := ⟨[.val (tyTMt), .val ((.int .i64))], [.val (tyTTp)], fun z => clocal z.1 z.2.1⟩
def kjoinS : FSpec := ⟨[.val (tyStyTCl), .val (tyTTp), .val (tyTTp)], [.val (tyTTp)], fun z => kjoin z.1 z.2.1 z.2.2.1⟩
def numIsS : FSpec := ⟨[.val ((.int .i64))], [.val (.bool)], fun z => some (numIs z.1, ())⟩
def fnumberS : FSpec := ⟨[], [.val (tyTTp)], fun _ => some (fnumberN, ())⟩
def farrayS : FSpec := ⟨[], [.val (tyTTp)], fun _ => some (farrayN, ())⟩
def fobjectS : FSpec := ⟨[.val ((.int .i64))], [.val (tyTTp)], fun z => some (fobjectN z.1, ())⟩
def fplain1S : FSpec := ⟨[.val (tyStyTTp)], [.val (tyStyTTp)], fun z => some (fplain1N z.1, ())⟩
def fof1S : FSpec := ⟨[.val (tyTTp)], [.val (tyStyTTp)], fun z => some (fof1N z.1, ())⟩
def fcalledS : FSpec := ⟨[.val (tyTMt), .val (tyStyTTp)], [.val ((.pair tyStyTTp (.pair tyStyTTp .unit)))], fun z => fcalled z.1 z.2.1⟩
def fplainS : FSpec := ⟨[.val ((.int .i64))], [.val ((.pair tyStyTTp (.pair tyStyTTp .unit))), .val (.bool)], fun z => some (fplain z.1)⟩
def fofS : FSpec := ⟨[.val (tyTIm), .val (tyTIns), .val ((.int .i64))], [.val ((.pair tyStyTTp (.pair tyStyTTp .unit)))], fun z => fof z.1 z.2.1 z.2.2.1⟩
def ffitsS : FSpec := ⟨[.val (tyTIm), .val ((.int .i64)), .val (tyTTp), .val (tyTTp)], [.val (.bool)], fun z => some (ffits z.1 z.2.1 z.2.2.1 z.2.2.2.1, ())⟩
def fnextsS : FSpec := ⟨[.val (tyTIns), .val ((.int .i64))], [.val (tySi64)], fun z => some (fnexts z.1 z.2.1, ())⟩
def fstepS : FSpec := ⟨[.val (tyTIm), .val ((.int .i64)), .val ((.int .i64)), .val (tyStyTTp)], [.val (tyStyTTp), .val (tySi64), .val ((.int .i64))], fun z => fstep z.1 z.2.1 z.2.2.1 z.2.2.2.1⟩
def tmergeS : FSpec := ⟨[.val (tyTIm), .val (tyTSh), .val (tyStyTTp)], [.val (tyTSh), .val (.bool), .val (.bool)], fun z => tmerge z.1 z.2.1 z.2.2.1⟩
def toneS : FSpec := ⟨[.val (tyTIm), .val ((.int .i64)), .val ((.int .i64)), .own 52 (tyTSh), .own 4 (.bool)], [.val (.bool)], fun z => tone z.1 z.2.1 z.2.2.1 z.2.2.2.1 z.2.2.2.2.1⟩
def tmethodS : FSpec := ⟨[.val (tyTIm), .val ((.int .i64))], [.val (tyStyTSh), .val ((.int .i64)), .val ((.int .i64))], fun z => tmethod z.1 z.2.1⟩
def tcheckS : FSpec := ⟨[.val (tyTIm)], [.val (tyStyStyTSh), .val ((.int .i64)), .val ((.int .i64)), .val ((.int .i64))], fun z => tcheck z.1⟩
def cyc1S : FSpec := ⟨[.val ((.int .i64)), .cap (tySi64)], [.val (.bool)], fun z => some (cyc1 z.1 z.2.1, ())⟩
def indexCycS : FSpec := ⟨[.val (tySi64), .val ((.clo 112 (.pair tySi64 .unit)))], [.val ((.int .i64))], fun z => some (indexCyc z.1 z.2.1, ())⟩
def containsCycS : FSpec := ⟨[.val (tySi64), .val ((.clo 112 (.pair tySi64 .unit)))], [.val (.bool)], fun z => some (containsCyc z.1 z.2.1, ())⟩
def cyclicS : FSpec := ⟨[.val (tyStySi64), .val (tySi64)], [.val (.bool)], fun z => cyclic z.1 z.2.1⟩
def dboundS : FSpec := ⟨[.val (tyTIm), .val (tyStyStyTSh)], [.val (tySi64), .val ((.int .i64))], fun z => dbound z.1 z.2.1⟩
def mul64S : FSpec := ⟨[.val ((.int .u64)), .val ((.int .u64))], [.val ((.int .u64)), .val ((.int .u64))], fun z => mul64 z.1 z.2.1⟩
def lofS : FSpec := ⟨[.val ((.int .i64))], [.val ((.pair (.int .i64) (.pair .bool .unit)))], fun z => some (lof z.1, ())⟩
def lsizeS : FSpec := ⟨[.val ((.int .i64))], [.val ((.int .u64))], fun z => some (lsize z.1, ())⟩
def lplusS : FSpec := ⟨[.val ((.pair (.int .i64) (.pair .bool .unit))), .val ((.pair (.int .i64) (.pair .bool .unit)))], [.val ((.pair (.int .i64) (.pair .bool .unit)))], fun z => lplus z.1 z.2.1⟩
def ltimesS : FSpec := ⟨[.val ((.pair (.int .i64) (.pair .bool .unit))), .val ((.pair (.int .i64) (.pair .bool .unit)))], [.val ((.pair (.int .i64) (.pair .bool .unit)))], fun z => ltimes z.1 z.2.1⟩
def lholdsS : FSpec := ⟨[.val (tyTIq), .val (tySi64)], [.val (.bool), .val ((.int .i64))], fun z => lholds z.1 z.2.1⟩
def pshapeS : FSpec := ⟨[.val (tyStyStyTSh), .val ((.int .i64)), .val ((.int .i64))], [.val (tyTSh)], fun z => pshape z.1 z.2.1 z.2.2.1⟩
def pcostS : FSpec := ⟨[.val (tyTIm), .val (tyTIns)], [.val ((.int .i64))], fun z => pcost z.1 z.2.1⟩
def prowS : FSpec := ⟨[.val ((.int .i64)), .val ((.int .i64)), .val ((.int .i64)), .val ((.int .i64))], [.val (tyTIq)], fun z => prow z.1 z.2.1 z.2.2.1 z.2.2.2.1⟩
def prulesS : FSpec := ⟨[.val (tyTIm), .val (tyStyStyTSh), .val ((.int .i64))], [.val (tyStyTIq)], fun z => prules z.1 z.2.1 z.2.2.1⟩
def pnegS : FSpec := ⟨[.val ((.int .i64))], [.val (.bool)], fun z => some (pnegN z.1, ())⟩
def indexNegS : FSpec := ⟨[.val (tySi64), .val ((.clo 42 .unit))], [.val ((.int .i64))], fun z => some (indexNeg z.1 z.2.1, ())⟩
def containsNegS : FSpec := ⟨[.val (tySi64), .val ((.clo 42 .unit))], [.val (.bool)], fun z => some (containsNeg z.1 z.2.1, ())⟩
def pcheckS : FSpec := ⟨[.val (tyTIm), .val (tyStyStyTSh)], [.val ((.int .i64)), .val ((.int .i64))], fun z => pcheck z.1 z.2.1⟩
def aneedsS : FSpec := ⟨[.val (tyTIm), .val (tyStyStyTSh)], [.val ((.int .i64)), .val ((.int .i64)), .val ((.int .i64))], fun z => aneeds z.1 z.2.1⟩
def acheckS : FSpec := ⟨[.val (tyTIm)], [.val (tyStyStyTSh), .val ((.int .i64))], fun z => acheckN z.1⟩
def abytesS : FSpec := ⟨[.val (tySu8)], [.val (tyTIm), .val (tyStyStyTSh), .val ((.int .i64))], fun z => abytesN z.1⟩
def r14costS : FSpec := ⟨[.val (tyTIm), .val (tyTIns)], [.val ((.int .i64))], fun z => r14cost z.1 z.2.1⟩
def r8sameS : FSpec := ⟨[.val (tyStyStyTSh), .val (tyStyStyTSh)], [.val (.bool)], fun z => r8same z.1 z.2.1⟩
def awake16S : FSpec := ⟨[], [.val (.bool)], fun _ => awake16N⟩
def small16S : FSpec := ⟨[.val (tyTIm)], [.val (.bool)], fun z => some (small16 z.1, ())⟩
def admitAlikeT : List Ty := [tyTIm]
noncomputable def admitAlikeS : FSpec := ⟨[.val (tyTIm)], [.val (.bool)], fun z => @ite _ (WfAll Tryz.prog admitAlikeT z) (Classical.propDecidable _) (some (true, ())) none⟩
theorem sortIO : FOk Tryz.prog 106 sortIS := sort_fok 3 ⟨_, Tryz.func106, by kernel_rfl, by kernel_rfl⟩ Tryz.slices_Sort_int Tryz.slices_Sort_int_none
theorem compactIO : FOk Tryz.prog 108 compactIS := compact_fok 3 ⟨_, Tryz.func108, by kernel_rfl, by kernel_rfl⟩ Tryz.slices_Compact_int Tryz.slices_Compact_int_empty
def iwithinG : Ctx := { ty := [], fns := [], tips := [], n := 12, bxs := [], ptrs := [] }
theorem iwithinE (fuel : Nat) (n : Int) (m : Int) : fnRun iwithinG A0 fuel Tryz.f164 iwithinS.ps iwithinS.rs (n, m, ()) = iwithinN n m := by kernel_rfl
theorem iwithinO : FOk Tryz.prog 164 iwithinS := fk (G := iwithinG) (A := A0) trivial Tryz.func164 fun z r _ h => ⟨0, (iwithinE 0 z.1 z.2.1).trans ((iwithin_eq _ _).trans h)⟩
def itypG : Ctx := { ty := [(3, (.int .i64)), (39, tyTTp)], fns := [(164, iwithinS)], tips := [], n := 21, bxs := [1], ptrs := [] }
theorem itypE (fuel : Nat) (t : Tp) : fnRun itypG A0 fuel Tryz.f197 itypS.ps itypS.rs (t, ()) = itypN t := by kernel_rfl
theorem itypO : FOk Tryz.prog 197 itypS := fk (G := itypG) (A := A0) ⟨iwithinO, trivial⟩ Tryz.func197 fun z r _ h => ⟨0, (itypE 0 z.1).trans ((ityp_eq _).trans h)⟩
def ityp1G : Ctx := { ty := [(39, tyTTp)], fns := [(197, itypS)], tips := [], n := 6, bxs := [1], ptrs := [] }
theorem ityp1E (fuel : Nat) (t : Tp) : fnRun ityp1G A0 fuel Tryz.f196 ityp1S.ps ityp1S.rs (t, ()) = ityp1N t := by kernel_rfl
theorem ityp1O : FOk Tryz.prog 196 ityp1S := fk (G := ityp1G) (A := A0) ⟨itypO, trivial⟩ Tryz.func196 fun z r _ h => ⟨0, (ityp1E 0 z.1).trans ((ityp1_eq _).trans h)⟩
def indexTypesG : Ctx := { ty := [(23, tyStyTTp), (39, tyTTp)], fns := [(196, ityp1S)], tips := [], n := 19, bxs := [], ptrs := [] }
def indexTypesA : Ann := ⟨[(2, (5, [.val 8 ((.int .i64)) false]))], [], [], []⟩
theorem indexTypesE (fuel : Nat) (l : List Tp) (c : Unit) : fnRun indexTypesG indexTypesA fuel Tryz.f203 indexTypesS.ps indexTypesS.rs (l, c, ()) = indexTypesN fuel l c := by kernel_rfl
theorem indexTypesO : FOk Tryz.prog 203 indexTypesS := fk (G := indexTypesG) (A := indexTypesA) ⟨ityp1O, trivial⟩ Tryz.func203 fun z r hl h => (indexTypes_eq _ _ hl).elim fun k hk => ⟨k, (indexTypesE k z.1 z.2.1).trans (hk.trans h)⟩
def containsTypesG : Ctx := { ty := [], fns := [(198000203, indexTypesS)], tips := [], n := 9, bxs := [], ptrs := [] }
theorem containsTypesE (fuel : Nat) (l : List Tp) (c : Unit) : fnRun containsTypesG A0 fuel Tryz.f173 containsTypesS.ps containsTypesS.rs (l, c, ()) = containsTypesN l c := by kernel_rfl
theorem containsTypesO : FOk Tryz.prog 173 containsTypesS := fk (G := containsTypesG) (A := A0) ⟨indexTypesO, trivial⟩ Tryz.func173 fun z r hl h => ⟨0, (containsTypesE 0 z.1 z.2.1).trans ((containsTypes_eq _ _ hl).trans h)⟩
def itypesG : Ctx := { ty := [(23, tyStyTTp)], fns := [(198000173, containsTypesS)], tips := [], n := 14, bxs := [], ptrs := [] }
theorem itypesE (fuel : Nat) (l : List Tp) (m : Int) : fnRun itypesG A0 fuel Tryz.f156 itypesS.ps itypesS.rs (l, m, ()) = itypesN l m := by kernel_rfl
theorem itypesO : FOk Tryz.prog 156 itypesS := fk (G := itypesG) (A := A0) ⟨containsTypesO, trivial⟩ Tryz.func156 fun z r _ h => ⟨0, (itypesE 0 z.1 z.2.1).trans ((itypes_eq _ _).trans h)⟩
def inum1G : Ctx := { ty := [(3, (.int .i64))], fns := [(164, iwithinS)], tips := [], n := 8, bxs := [], ptrs := [] }
theorem inum1E (fuel : Nat) (n : Int) (m : Int) : fnRun inum1G A0 fuel Tryz.f201 inum1S.ps inum1S.rs (n, m, ()) = inum1N n m := by kernel_rfl
theorem inum1O : FOk Tryz.prog 201 inum1S := fk (G := inum1G) (A := A0) ⟨iwithinO, trivial⟩ Tryz.func201 fun z r _ h => ⟨0, (inum1E 0 z.1 z.2.1).trans ((inum1_eq _ _).trans h)⟩
def indexNumsG : Ctx := { ty := [(3, (.int .i64)), (26, tySi64)], fns := [(201, inum1S)], tips := [], n := 19, bxs := [], ptrs := [] }
def indexNumsA : Ann := ⟨[(2, (5, [.val 8 ((.int .i64)) false]))], [], [], []⟩
theorem indexNumsE (fuel : Nat) (l : List Int) (c : Int × Unit) : fnRun indexNumsG indexNumsA fuel Tryz.f85 indexNumsS.ps indexNumsS.rs (l, c, ()) = indexNumsN fuel l c := by kernel_rfl
theorem indexNumsO : FOk Tryz.prog 85 indexNumsS := fk (G := indexNumsG) (A := indexNumsA) ⟨inum1O, trivial⟩ Tryz.func85 fun z r hl h => (indexNums_eq _ _ hl).elim fun k hk => ⟨k, (indexNumsE k z.1 z.2.1).trans (hk.trans h)⟩
def containsNumsG : Ctx := { ty := [], fns := [(203000085, indexNumsS)], tips := [], n := 9, bxs := [], ptrs := [] }
theorem containsNumsE (fuel : Nat) (l : List Int) (c : Int × Unit) : fnRun containsNumsG A0 fuel Tryz.f41 containsNumsS.ps containsNumsS.rs (l, c, ()) = containsNumsN l c := by kernel_rfl
theorem containsNumsO : FOk Tryz.prog 41 containsNumsS := fk (G := containsNumsG) (A := A0) ⟨indexNumsO, trivial⟩ Tryz.func41 fun z r hl h => ⟨0, (containsNumsE 0 z.1 z.2.1).trans ((containsNums_eq _ _ hl).trans h)⟩
def inumsG : Ctx := { ty := [(3, (.int .i64)), (26, tySi64)], fns := [(203000041, containsNumsS)], tips := [], n := 17, bxs := [5], ptrs := [] }
theorem inumsE (fuel : Nat) (l : List Int) (c : Int) (m : Int) : fnRun inumsG A0 fuel Tryz.f163 inumsS.ps inumsS.rs (l, c, m, ()) = inumsN l c m := by kernel_rfl
theorem inumsO : FOk Tryz.prog 163 inumsS := fk (G := inumsG) (A := A0) ⟨containsNumsO, trivial⟩ Tryz.func163 fun z r _ h => ⟨0, (inumsE 0 z.1 z.2.1 z.2.2.1).trans ((inums_eq _ _ _).trans h)⟩
def iclassG : Ctx := { ty := [(3, (.int .i64)), (23, tyStyTTp), (26, tySi64), (106, tyTCl)], fns := [(156, itypesS), (163, inumsS)], tips := [], n := 21, bxs := [1], ptrs := [] }
theorem iclassE (fuel : Nat) (x : Cl) : fnRun iclassG A0 fuel Tryz.f159 iclassS.ps iclassS.rs (x, ()) = iclassN x := by kernel_rfl
theorem iclassO : FOk Tryz.prog 159 iclassS := fk (G := iclassG) (A := A0) ⟨itypesO, inumsO, trivial⟩ Tryz.func159 fun z r _ h => ⟨0, (iclassE 0 z.1).trans ((iclass_eq _).trans h)⟩
def ifits1G : Ctx := { ty := [(106, tyTCl)], fns := [(159, iclassS)], tips := [], n := 6, bxs := [1], ptrs := [] }
theorem ifits1E (fuel : Nat) (x : Cl) : fnRun ifits1G A0 fuel Tryz.f158 ifits1S.ps ifits1S.rs (x, ()) = ifits1N x := by kernel_rfl
theorem ifits1O : FOk Tryz.prog 158 ifits1S := fk (G := ifits1G) (A := A0) ⟨iclassO, trivial⟩ Tryz.func158 fun z r _ h => ⟨0, (ifits1E 0 z.1).trans ((ifits1_eq _).trans h)⟩
def indexClassG : Ctx := { ty := [(22, tyStyTCl), (106, tyTCl)], fns := [(158, ifits1S)], tips := [], n := 19, bxs := [], ptrs := [] }
def indexClassA : Ann := ⟨[(2, (5, [.val 8 ((.int .i64)) false]))], [], [], []⟩
theorem indexClassE (fuel : Nat) (l : List Cl) (c : Unit) : fnRun indexClassG indexClassA fuel Tryz.f198 indexClassS.ps indexClassS.rs (l, c, ()) = indexClassN fuel l c := by kernel_rfl
theorem indexClassO : FOk Tryz.prog 198 indexClassS := fk (G := indexClassG) (A := indexClassA) ⟨ifits1O, trivial⟩ Tryz.func198 fun z r hl h => (indexClass_eq _ _ hl).elim fun k hk => ⟨k, (indexClassE k z.1 z.2.1).trans (hk.trans h)⟩
def containsClassG : Ctx := { ty := [], fns := [(160000198, indexClassS)], tips := [], n := 9, bxs := [], ptrs := [] }
theorem containsClassE (fuel : Nat) (l : List Cl) (c : Unit) : fnRun containsClassG A0 fuel Tryz.f157 containsClassS.ps containsClassS.rs (l, c, ()) = containsClassN l c := by kernel_rfl
theorem containsClassO : FOk Tryz.prog 157 containsClassS := fk (G := containsClassG) (A := A0) ⟨indexClassO, trivial⟩ Tryz.func157 fun z r hl h => ⟨0, (containsClassE 0 z.1 z.2.1).trans ((containsClass_eq _ _ hl).trans h)⟩
def iargsG : Ctx := { ty := [], fns := [], tips := [], n := 26, bxs := [], ptrs := [] }
def iargsA : Ann := ⟨[], [(2, (11, [.val 4 (.bool) false]))], [], []⟩
theorem iargsE (fuel : Nat) (o : Int) : fnRun iargsG iargsA fuel Tryz.f205 iargsS.ps iargsS.rs (o, ()) = iargsN o := by kernel_rfl
theorem iargsO : FOk Tryz.prog 205 iargsS := fk (G := iargsG) (A := iargsA) trivial Tryz.func205 fun z r _ h => ⟨0, (iargsE 0 z.1).trans ((iargs_eq _).trans h)⟩
def withinG : Ctx := { ty := [], fns := [], tips := [], n := 18, bxs := [], ptrs := [] }
theorem withinE (fuel : Nat) (n : Int) (c : Int) (a : Int) : fnRun withinG A0 fuel Tryz.f212 withinS.ps withinS.rs (n, c, a, ()) = withinN n c a := by kernel_rfl
theorem withinO : FOk Tryz.prog 212 withinS := fk (G := withinG) (A := A0) trivial Tryz.func212 fun z r _ h => ⟨0, (withinE 0 z.1 z.2.1 z.2.2.1).trans ((within_eq _ _ _).trans h)⟩
def igoodG : Ctx := { ty := [(3, (.int .i64)), (45, tyTIns)], fns := [(205, iargsS), (212, withinS)], tips := [], n := 21, bxs := [1], ptrs := [] }
theorem igoodE (fuel : Nat) (i : Ins) : fnRun igoodG A0 fuel Tryz.f200 igoodS.ps igoodS.rs (i, ()) = igoodN i := by kernel_rfl
theorem igoodO : FOk Tryz.prog 200 igoodS := fk (G := igoodG) (A := A0) ⟨iargsO, withinO, trivial⟩ Tryz.func200 fun z r _ h => ⟨0, (igoodE 0 z.1).trans ((igood_eq _).trans h)⟩
def imethodG : Ctx := { ty := [(3, (.int .i64)), (23, tyStyTTp), (26, tySi64), (39, tyTTp), (40, tyStyTIns), (42, tyTMt), (45, tyTIns)], fns := [(156, itypesS), (163, inumsS), (164, iwithinS), (197, itypS), (200, igoodS)], tips := [], n := 51, bxs := [1, 4], ptrs := [] }
def imethodA : Ann := ⟨[(4, (5, [.val 30 ((.int .i64)) false]))], [], [], []⟩
theorem imethodE (fuel : Nat) (x : Mt) : fnRun imethodG imethodA fuel Tryz.f162 imethodS.ps imethodS.rs (x, ()) = imethodN fuel x := by kernel_rfl
theorem imethodO : FOk Tryz.prog 162 imethodS := fk (G := imethodG) (A := imethodA) ⟨itypesO, inumsO, iwithinO, itypO, igoodO, trivial⟩ Tryz.func162 fun z r _ h => (imethod_eq _).elim fun k hk => ⟨k, (imethodE k z.1).trans (hk.trans h)⟩
def ifits2G : Ctx := { ty := [(42, tyTMt)], fns := [(162, imethodS)], tips := [], n := 6, bxs := [1], ptrs := [] }
theorem ifits2E (fuel : Nat) (x : Mt) : fnRun ifits2G A0 fuel Tryz.f161 ifits2S.ps ifits2S.rs (x, ()) = ifits2N x := by kernel_rfl
theorem ifits2O : FOk Tryz.prog 161 ifits2S := fk (G := ifits2G) (A := A0) ⟨imethodO, trivial⟩ Tryz.func161 fun z r _ h => ⟨0, (ifits2E 0 z.1).trans ((ifits2_eq _).trans h)⟩
def indexMethodG : Ctx := { ty := [(25, tyStyTMt), (42, tyTMt)], fns := [(161, ifits2S)], tips := [], n := 19, bxs := [], ptrs := [] }
def indexMethodA : Ann := ⟨[(2, (5, [.val 8 ((.int .i64)) false]))], [], [], []⟩
theorem indexMethodE (fuel : Nat) (l : List Mt) (c : Unit) : fnRun indexMethodG indexMethodA fuel Tryz.f199 indexMethodS.ps indexMethodS.rs (l, c, ()) = indexMethodN fuel l c := by kernel_rfl
theorem indexMethodO : FOk Tryz.prog 199 indexMethodS := fk (G := indexMethodG) (A := indexMethodA) ⟨ifits2O, trivial⟩ Tryz.func199 fun z r hl h => (indexMethod_eq _ _ hl).elim fun k hk => ⟨k, (indexMethodE k z.1 z.2.1).trans (hk.trans h)⟩
def containsMethodG : Ctx := { ty := [], fns := [(163000199, indexMethodS)], tips := [], n := 9, bxs := [], ptrs := [] }
theorem containsMethodE (fuel : Nat) (l : List Mt) (c : Unit) : fnRun containsMethodG A0 fuel Tryz.f160 containsMethodS.ps containsMethodS.rs (l, c, ()) = containsMethodN l c := by kernel_rfl
theorem containsMethodO : FOk Tryz.prog 160 containsMethodS := fk (G := containsMethodG) (A := A0) ⟨indexMethodO, trivial⟩ Tryz.func160 fun z r hl h => ⟨0, (containsMethodE 0 z.1 z.2.1).trans ((containsMethod_eq _ _ hl).trans h)⟩
def sentry1G : Ctx := { ty := [(39, tyTTp)], fns := [], tips := [], n := 6, bxs := [1], ptrs := [] }
theorem sentry1E (fuel : Nat) (t : Tp) : fnRun sentry1G A0 fuel Tryz.f172 sentry1S.ps sentry1S.rs (t, ()) = sentry1N t := by kernel_rfl
theorem sentry1O : FOk Tryz.prog 172 sentry1S := fk (G := sentry1G) (A := A0) trivial Tryz.func172 fun z r _ h => ⟨0, (sentry1E 0 z.1).trans ((sentry1_eq _).trans h)⟩
def sentry2G : Ctx := { ty := [(39, tyTTp), (95, .any)], fns := [(172, sentry1S)], tips := [], n := 8, bxs := [2], ptrs := [] }
theorem sentry2E (fuel : Nat) (t : Tp) (f : Unit) : fnRun sentry2G A0 fuel Tryz.f174 sentry2S.ps sentry2S.rs (t, f, ()) = sentry2N t f := by kernel_rfl
theorem sentry2O : FOk Tryz.prog 174 sentry2S := fk (G := sentry2G) (A := A0) ⟨sentry1O, trivial⟩ Tryz.func174 fun z r _ h => ⟨0, (sentry2E 0 z.1 z.2.1).trans ((sentry2_eq _ _).trans h)⟩
def indexEntryG : Ctx := { ty := [(23, tyStyTTp), (39, tyTTp)], fns := [(174, sentry2S)], tips := [], n := 19, bxs := [], ptrs := [] }
def indexEntryA : Ann := ⟨[(2, (5, [.val 8 ((.int .i64)) false]))], [], [], []⟩
theorem indexEntryE (fuel : Nat) (l : List Tp) (c : Unit × Unit) : fnRun indexEntryG indexEntryA fuel Tryz.f203 indexEntryS.ps indexEntryS.rs (l, c, ()) = indexEntryN fuel l c := by kernel_rfl
theorem indexEntryO : FOk Tryz.prog 203 indexEntryS := fk (G := indexEntryG) (A := indexEntryA) ⟨sentry2O, trivial⟩ Tryz.func203 fun z r hl h => (indexEntry_eq _ _ hl).elim fun k hk => ⟨k, (indexEntryE k z.1 z.2.1).trans (hk.trans h)⟩
def containsEntryG : Ctx := { ty := [], fns := [(176000203, indexEntryS)], tips := [], n := 9, bxs := [], ptrs := [] }
theorem containsEntryE (fuel : Nat) (l : List Tp) (c : Unit × Unit) : fnRun containsEntryG A0 fuel Tryz.f173 containsEntryS.ps containsEntryS.rs (l, c, ()) = containsEntryN l c := by kernel_rfl
theorem containsEntryO : FOk Tryz.prog 173 containsEntryS := fk (G := containsEntryG) (A := A0) ⟨indexEntryO, trivial⟩ Tryz.func173 fun z r hl h => ⟨0, (containsEntryE 0 z.1 z.2.1).trans ((containsEntry_eq _ _ hl).trans h)⟩
def newG : Ctx := { ty := [(204, (.pair tySu8 (.pair .bool .unit)))], fns := [], tips := [], n := 6, bxs := [5], ptrs := [] }
theorem newE (fuel : Nat) (b : List Int) : fnRun newG A0 fuel Tryz.f122 newS.ps newS.rs (b, ()) = some (newN b, ()) := by kernel_rfl
theorem newO : FOk Tryz.prog 122 newS := fk (G := newG) (A := A0) trivial Tryz.func122 fun z r _ h => ⟨0, (newE 0 z.1).trans h⟩
def nextG : Ctx := { ty := [(5, (.int .u8)), (74, tySu8), (172, (.int .u64)), (204, (.pair tySu8 (.pair .bool .unit)))], fns := [], tips := [], n := 47, bxs := [1000000], ptrs := [] }
def nextA : Ann := ⟨[(3, (8, [.val 4 ((.int .u64)) false, .val 12 ((.int .i64)) false]))], [], [], []⟩
theorem nextE (fuel : Nat) (r : List Int × Bool × Unit) : fnRun nextG nextA fuel Tryz.f177 nextS.ps nextS.rs (r, ()) = nextN fuel r := by kernel_rfl
theorem nextO : FOk Tryz.prog 177 nextS := fk (G := nextG) (A := nextA) trivial Tryz.func177 fun z r _ h => (next_ok _ r h).elim fun k hk => ⟨k, (nextE k z.1).trans hk⟩
def getG : Ctx := { ty := [(3, (.int .i64)), (4, .bool), (172, (.int .u64)), (204, (.pair tySu8 (.pair .bool .unit)))], fns := [(177, nextS)], tips := [], n := 37, bxs := [1000000], ptrs := [163] }
theorem getE (fuel : Nat) (r : List Int × Bool × Unit) (n : Int) : fnRun getG A0 fuel Tryz.f123 getS.ps getS.rs (r, n, ()) = getN r n := by kernel_rfl
theorem getO : FOk Tryz.prog 123 getS := fk (G := getG) (A := A0) ⟨nextO, trivial⟩ Tryz.func123 fun z r _ h => ⟨0, (getE 0 z.1 z.2.1).trans h⟩
def glongG : Ctx := { ty := [(3, (.int .i64)), (21, (.int .i32)), (208, (.int .u32))], fns := [(123, getS)], tips := [], n := 15, bxs := [1000000], ptrs := [] }
theorem glongE (fuel : Nat) (r : List Int × Bool × Unit) : fnRun glongG A0 fuel Tryz.f126 glongS.ps glongS.rs (r, ()) = glongN r := by kernel_rfl
theorem glongO : FOk Tryz.prog 126 glongS := fk (G := glongG) (A := A0) ⟨getO, trivial⟩ Tryz.func126 fun z r _ h => ⟨0, (glongE 0 z.1).trans h⟩
def finG : Ctx := { ty := [(4, .bool), (74, tySu8), (204, (.pair tySu8 (.pair .bool .unit)))], fns := [], tips := [], n := 20, bxs := [1000000], ptrs := [163] }
theorem finE (fuel : Nat) (r : List Int × Bool × Unit) : fnRun finG A0 fuel Tryz.f128 finS.ps finS.rs (r, ()) = finN r := by kernel_rfl
theorem finO : FOk Tryz.prog 128 finS := fk (G := finG) (A := A0) trivial Tryz.func128 fun z r _ h => ⟨0, (finE 0 z.1).trans h⟩
def rbytesG : Ctx := { ty := [(3, (.int .i64)), (5, (.int .u8)), (74, tySu8)], fns := [], tips := [9, 18], n := 23, bxs := [], ptrs := [] }
def rbytesA : Ann := ⟨[(4, (3, [.val 0 ((.int .i64)) false, .val 3 (tySu8) true]))], [(1, (2, [.val 0 ((.int .i64)) false]))], [], []⟩
theorem rbytesE (fuel : Nat) (n : Int) : fnRun rbytesG rbytesA fuel Tryz.f71 rbytesS.ps rbytesS.rs (n, ()) = rbytesN fuel n := by kernel_rfl
theorem rbytesO : FOk Tryz.prog 71 rbytesS := fk (G := rbytesG) (A := rbytesA) trivial Tryz.func71 fun z r _ h => (rbytes_ok _ r h).elim fun k hk => ⟨k, (rbytesE k z.1).trans hk⟩
def rsignedG : Ctx := { ty := [(3, (.int .i64)), (21, (.int .i32)), (74, tySu8)], fns := [(71, rbytesS)], tips := [], n := 14, bxs := [], ptrs := [] }
theorem rsignedE (fuel : Nat) (n : Int) : fnRun rsignedG A0 fuel Tryz.f74 rsignedS.ps rsignedS.rs (n, ()) = rsignedN n := by kernel_rfl
theorem rsignedO : FOk Tryz.prog 74 rsignedS := fk (G := rsignedG) (A := A0) ⟨rbytesO, trivial⟩ Tryz.func74 fun z r _ h => ⟨0, (rsignedE 0 z.1).trans h⟩
def rinG : Ctx := { ty := [(3, (.int .i64)), (26, tySi64)], fns := [], tips := [], n := 18, bxs := [], ptrs := [] }
def rinA : Ann := ⟨[(2, (4, [.val 5 ((.int .i64)) false]))], [], [], []⟩
theorem rinE (fuel : Nat) (l : List Int) (x : Int) : fnRun rinG rinA fuel Tryz.f99 rinS.ps rinS.rs (l, x, ()) = rinN fuel l x := by kernel_rfl
theorem rinO : FOk Tryz.prog 99 rinS := fk (G := rinG) (A := rinA) trivial Tryz.func99 fun z r _ h => (rin_ok _ _ r h).elim fun k hk => ⟨k, (rinE k z.1 z.2.1).trans hk⟩
def rargsG : Ctx := { ty := [(26, tySi64)], fns := [(99, rinS)], tips := [], n := 24, bxs := [], ptrs := [] }
theorem rargsE (fuel : Nat) (o : Int) : fnRun rargsG A0 fuel Tryz.f76 rargsS.ps rargsS.rs (o, ()) = rargsN o := by kernel_rfl
theorem rargsO : FOk Tryz.prog 76 rargsS := fk (G := rargsG) (A := A0) ⟨rinO, trivial⟩ Tryz.func76 fun z r _ h => ⟨0, (rargsE 0 z.1).trans ((rargs_eq _).trans h)⟩
def igetG : Ctx := { ty := [(3, (.int .i64)), (45, tyTIns)], fns := [(123, getS), (205, iargsS)], tips := [], n := 22, bxs := [1000000, 2, 3], ptrs := [] }
theorem igetE (fuel : Nat) (r : List Int × Bool × Unit) : fnRun igetG A0 fuel Tryz.f179 igetS.ps igetS.rs (r, ()) = igetN r := by kernel_rfl
theorem igetO : FOk Tryz.prog 179 igetS := fk (G := igetG) (A := A0) ⟨getO, iargsO, trivial⟩ Tryz.func179 fun z r _ h => ⟨0, (igetE 0 z.1).trans h⟩
def rinstrG : Ctx := { ty := [(3, (.int .i64)), (45, tyTIns)], fns := [(76, rargsS)], tips := [], n := 45, bxs := [1], ptrs := [] }
def rinstrA : Ann := ⟨[], [(2, (2, []))], [], []⟩
theorem rinstrE (fuel : Nat) (i : Ins) : fnRun rinstrG rinstrA fuel Tryz.f70 rinstrS.ps rinstrS.rs (i, ()) = rinstrN i := by kernel_rfl
theorem rinstrO : FOk Tryz.prog 70 rinstrS := fk (G := rinstrG) (A := rinstrA) ⟨rargsO, trivial⟩ Tryz.func70 fun z r _ h => ⟨0, (rinstrE 0 z.1).trans ((rinstr_eq _).trans h)⟩
def clipCG : Ctx := { ty := [(22, tyStyTCl)], fns := [], tips := [], n := 9, bxs := [], ptrs := [] }
theorem clipCE (fuel : Nat) (s : List Cl) : fnRun clipCG A0 fuel Tryz.f104 clipCS.ps clipCS.rs (s, ()) = clipCN s := by kernel_rfl
theorem clipCO : FOk Tryz.prog 104 clipCS := fk (G := clipCG) (A := A0) trivial Tryz.func104 fun z r _ h => ⟨0, (clipCE 0 z.1).trans ((clipC_eq _).trans h)⟩
def clipMG : Ctx := { ty := [(25, tyStyTMt)], fns := [], tips := [], n := 9, bxs := [], ptrs := [] }
theorem clipME (fuel : Nat) (s : List Mt) : fnRun clipMG A0 fuel Tryz.f105 clipMS.ps clipMS.rs (s, ()) = clipMN s := by kernel_rfl
theorem clipMO : FOk Tryz.prog 105 clipMS := fk (G := clipMG) (A := A0) trivial Tryz.func105 fun z r _ h => ⟨0, (clipME 0 z.1).trans ((clipM_eq _).trans h)⟩
def clipTG : Ctx := { ty := [(23, tyStyTTp)], fns := [], tips := [], n := 9, bxs := [], ptrs := [] }
theorem clipTE (fuel : Nat) (s : List Tp) : fnRun clipTG A0 fuel Tryz.f145 clipTS.ps clipTS.rs (s, ()) = clipTN s := by kernel_rfl
theorem clipTO : FOk Tryz.prog 145 clipTS := fk (G := clipTG) (A := A0) trivial Tryz.func145 fun z r _ h => ⟨0, (clipTE 0 z.1).trans ((clipT_eq _).trans h)⟩
def clipIG : Ctx := { ty := [(26, tySi64)], fns := [], tips := [], n := 9, bxs := [], ptrs := [] }
theorem clipIE (fuel : Nat) (s : List Int) : fnRun clipIG A0 fuel Tryz.f107 clipIS.ps clipIS.rs (s, ()) = clipIN s := by kernel_rfl
theorem clipIO : FOk Tryz.prog 107 clipIS := fk (G := clipIG) (A := A0) trivial Tryz.func107 fun z r _ h => ⟨0, (clipIE 0 z.1).trans ((clipI_eq _).trans h)⟩
def clipXG : Ctx := { ty := [(40, tyStyTIns)], fns := [], tips := [], n := 9, bxs := [], ptrs := [] }
theorem clipXE (fuel : Nat) (s : List Ins) : fnRun clipXG A0 fuel Tryz.f150 clipXS.ps clipXS.rs (s, ()) = clipXN s := by kernel_rfl
theorem clipXO : FOk Tryz.prog 150 clipXS := fk (G := clipXG) (A := A0) trivial Tryz.func150 fun z r _ h => ⟨0, (clipXE 0 z.1).trans ((clipX_eq _).trans h)⟩
def clipJG : Ctx := { ty := [(24, tySi32)], fns := [], tips := [], n := 9, bxs := [], ptrs := [] }
theorem clipJE (fuel : Nat) (s : List Int) : fnRun clipJG A0 fuel Tryz.f147 clipJS.ps clipJS.rs (s, ()) = clipJN s := by kernel_rfl
theorem clipJO : FOk Tryz.prog 147 clipJS := fk (G := clipJG) (A := A0) trivial Tryz.func147 fun z r _ h => ⟨0, (clipJE 0 z.1).trans ((clipJ_eq _).trans h)⟩
def cloneTG : Ctx := { ty := [(23, tyStyTTp)], fns := [], tips := [], n := 8, bxs := [], ptrs := [] }
def cloneTA : Ann := ⟨[], [], [], []⟩
def cloneTS0 : FSpec := ⟨[.full (tyStyTTp) false], [.val (tyStyTTp)], fun _ => some (([] : List Tp), ())⟩
def cloneTS1 : FSpec := ⟨[.full (tyStyTTp) true], [.val (tyStyTTp)], fun z => cloneTN z.1⟩
theorem cloneTE0 (fuel : Nat) (s : List Tp) : fnRun cloneTG cloneTA fuel Tryz.f146 [.full (tyStyTTp) false] [.val (tyStyTTp)] (s, ()) = cloneTS0.run (s, ()) := by kernel_rfl
theorem cloneTO0 : FOk Tryz.prog 146 cloneTS0 := fok (G := cloneTG) (fn := Tryz.f146) (A := cloneTA) (ctxOk (by kernel_rfl) (by kernel_rfl) trivial) Tryz.func146 (by kernel_rfl) (by kernel_rfl) fun z r _ h => ⟨0, (cloneTE0 0 z.1).trans h⟩
theorem cloneTE1 (fuel : Nat) (s : List Tp) : fnRun cloneTG cloneTA fuel Tryz.f146 [.full (tyStyTTp) true] [.val (tyStyTTp)] (s, ()) = cloneTS1.run (s, ()) := by kernel_rfl
theorem cloneTO1 : FOk Tryz.prog 146 cloneTS1 := fok (G := cloneTG) (fn := Tryz.f146) (A := cloneTA) (ctxOk (by kernel_rfl) (by kernel_rfl) trivial) Tryz.func146 (by kernel_rfl) (by kernel_rfl) fun z r _ h => ⟨0, (cloneTE1 0 z.1).trans h⟩
theorem cloneTO : FOk Tryz.prog 146 cloneTS := FOk.split _ cloneTO1 cloneTO0 (fun _ h => h)
def cloneJG : Ctx := { ty := [(24, tySi32)], fns := [], tips := [], n := 8, bxs := [], ptrs := [] }
def cloneJA : Ann := ⟨[], [], [], []⟩
def cloneJS0 : FSpec := ⟨[.full (tySi32) false], [.val (tySi32)], fun _ => some (([] : List Int), ())⟩
def cloneJS1 : FSpec := ⟨[.full (tySi32) true], [.val (tySi32)], fun z => cloneJN z.1⟩
theorem cloneJE0 (fuel : Nat) (s : List Int) : fnRun cloneJG cloneJA fuel Tryz.f148 [.full (tySi32) false] [.val (tySi32)] (s, ()) = cloneJS0.run (s, ()) := by kernel_rfl
theorem cloneJO0 : FOk Tryz.prog 148 cloneJS0 := fok (G := cloneJG) (fn := Tryz.f148) (A := cloneJA) (ctxOk (by kernel_rfl) (by kernel_rfl) trivial) Tryz.func148 (by kernel_rfl) (by kernel_rfl) fun z r _ h => ⟨0, (cloneJE0 0 z.1).trans h⟩
theorem cloneJE1 (fuel : Nat) (s : List Int) : fnRun cloneJG cloneJA fuel Tryz.f148 [.full (tySi32) true] [.val (tySi32)] (s, ()) = cloneJS1.run (s, ()) := by kernel_rfl
theorem cloneJO1 : FOk Tryz.prog 148 cloneJS1 := fok (G := cloneJG) (fn := Tryz.f148) (A := cloneJA) (ctxOk (by kernel_rfl) (by kernel_rfl) trivial) Tryz.func148 (by kernel_rfl) (by kernel_rfl) fun z r _ h => ⟨0, (cloneJE1 0 z.1).trans h⟩
theorem cloneJO : FOk Tryz.prog 148 cloneJS := FOk.split _ cloneJO1 cloneJO0 (fun _ h => h)
def cloneIG : Ctx := { ty := [(26, tySi64)], fns := [], tips := [], n := 8, bxs := [], ptrs := [] }
def cloneIA : Ann := ⟨[], [], [], []⟩
def cloneIS0 : FSpec := ⟨[.full (tySi64) false], [.val (tySi64)], fun _ => some (([] : List Int), ())⟩
def cloneIS1 : FSpec := ⟨[.full (tySi64) true], [.val (tySi64)], fun z => cloneIN z.1⟩
theorem cloneIE0 (fuel : Nat) (s : List Int) : fnRun cloneIG cloneIA fuel Tryz.f149 [.full (tySi64) false] [.val (tySi64)] (s, ()) = cloneIS0.run (s, ()) := by kernel_rfl
theorem cloneIO0 : FOk Tryz.prog 149 cloneIS0 := fok (G := cloneIG) (fn := Tryz.f149) (A := cloneIA) (ctxOk (by kernel_rfl) (by kernel_rfl) trivial) Tryz.func149 (by kernel_rfl) (by kernel_rfl) fun z r _ h => ⟨0, (cloneIE0 0 z.1).trans h⟩
theorem cloneIE1 (fuel : Nat) (s : List Int) : fnRun cloneIG cloneIA fuel Tryz.f149 [.full (tySi64) true] [.val (tySi64)] (s, ()) = cloneIS1.run (s, ()) := by kernel_rfl
theorem cloneIO1 : FOk Tryz.prog 149 cloneIS1 := fok (G := cloneIG) (fn := Tryz.f149) (A := cloneIA) (ctxOk (by kernel_rfl) (by kernel_rfl) trivial) Tryz.func149 (by kernel_rfl) (by kernel_rfl) fun z r _ h => ⟨0, (cloneIE1 0 z.1).trans h⟩
theorem cloneIO : FOk Tryz.prog 149 cloneIS := FOk.split _ cloneIO1 cloneIO0 (fun _ h => h)
def cloneXG : Ctx := { ty := [(40, tyStyTIns)], fns := [], tips := [], n := 8, bxs := [], ptrs := [] }
def cloneXA : Ann := ⟨[], [], [], []⟩
def cloneXS0 : FSpec := ⟨[.full (tyStyTIns) false], [.val (tyStyTIns)], fun _ => some (([] : List Ins), ())⟩
def cloneXS1 : FSpec := ⟨[.full (tyStyTIns) true], [.val (tyStyTIns)], fun z => cloneXN z.1⟩
theorem cloneXE0 (fuel : Nat) (s : List Ins) : fnRun cloneXG cloneXA fuel Tryz.f151 [.full (tyStyTIns) false] [.val (tyStyTIns)] (s, ()) = cloneXS0.run (s, ()) := by kernel_rfl
theorem cloneXO0 : FOk Tryz.prog 151 cloneXS0 := fok (G := cloneXG) (fn := Tryz.f151) (A := cloneXA) (ctxOk (by kernel_rfl) (by kernel_rfl) trivial) Tryz.func151 (by kernel_rfl) (by kernel_rfl) fun z r _ h => ⟨0, (cloneXE0 0 z.1).trans h⟩
theorem cloneXE1 (fuel : Nat) (s : List Ins) : fnRun cloneXG cloneXA fuel Tryz.f151 [.full (tyStyTIns) true] [.val (tyStyTIns)] (s, ()) = cloneXS1.run (s, ()) := by kernel_rfl
theorem cloneXO1 : FOk Tryz.prog 151 cloneXS1 := fok (G := cloneXG) (fn := Tryz.f151) (A := cloneXA) (ctxOk (by kernel_rfl) (by kernel_rfl) trivial) Tryz.func151 (by kernel_rfl) (by kernel_rfl) fun z r _ h => ⟨0, (cloneXE1 0 z.1).trans h⟩
theorem cloneXO : FOk Tryz.prog 151 cloneXS := FOk.split _ cloneXO1 cloneXO0 (fun _ h => h)
def anTG : Ctx := { ty := [(23, tyStyTTp)], fns := [(145, clipTS), (146, cloneTS)], tips := [], n := 6, bxs := [], ptrs := [] }
theorem anTE (fuel : Nat) (s : List Tp) : fnRun anTG A0 fuel Tryz.f100 anTS.ps anTS.rs (s, ()) = anTN s := by kernel_rfl
theorem anTO : FOk Tryz.prog 100 anTS := fk (G := anTG) (A := A0) ⟨clipTO, cloneTO, trivial⟩ Tryz.func100 fun z r _ h => ⟨0, (anTE 0 z.1).trans h⟩
def anJG : Ctx := { ty := [(24, tySi32)], fns := [(147, clipJS), (148, cloneJS)], tips := [], n := 6, bxs := [], ptrs := [] }
theorem anJE (fuel : Nat) (s : List Int) : fnRun anJG A0 fuel Tryz.f101 anJS.ps anJS.rs (s, ()) = anJN s := by kernel_rfl
theorem anJO : FOk Tryz.prog 101 anJS := fk (G := anJG) (A := A0) ⟨clipJO, cloneJO, trivial⟩ Tryz.func101 fun z r _ h => ⟨0, (anJE 0 z.1).trans h⟩
def anIG : Ctx := { ty := [(26, tySi64)], fns := [(107, clipIS), (149, cloneIS)], tips := [], n := 6, bxs := [], ptrs := [] }
theorem anIE (fuel : Nat) (s : List Int) : fnRun anIG A0 fuel Tryz.f102 anIS.ps anIS.rs (s, ()) = anIN s := by kernel_rfl
theorem anIO : FOk Tryz.prog 102 anIS := fk (G := anIG) (A := A0) ⟨clipIO, cloneIO, trivial⟩ Tryz.func102 fun z r _ h => ⟨0, (anIE 0 z.1).trans h⟩
def anXG : Ctx := { ty := [(40, tyStyTIns)], fns := [(150, clipXS), (151, cloneXS)], tips := [], n := 6, bxs := [], ptrs := [] }
theorem anXE (fuel : Nat) (s : List Ins) : fnRun anXG A0 fuel Tryz.f103 anXS.ps anXS.rs (s, ()) = anXN s := by kernel_rfl
theorem anXO : FOk Tryz.prog 103 anXS := fk (G := anXG) (A := A0) ⟨clipXO, cloneXO, trivial⟩ Tryz.func103 fun z r _ h => ⟨0, (anXE 0 z.1).trans h⟩
def eqTG : Ctx := { ty := [(23, tyStyTTp), (39, tyTTp)], fns := [], tips := [], n := 26, bxs := [], ptrs := [] }
def eqTA : Ann := ⟨[(4, (5, [.val 13 ((.int .i64)) false]))], [], [(6, [[], [0], [], [], [0, 1, 2, 3], [0, 1, 2, 3, 4], [0, 1, 2, 3], [0, 1, 2, 3], []])], []⟩
theorem eqTE (fuel : Nat) (a : List Tp) (b : List Tp) : fnRun eqTG eqTA fuel Tryz.f202 eqTS.ps eqTS.rs (a, b, ()) = eqTN fuel a b := by kernel_rfl
theorem eqTO : FOk Tryz.prog 202 eqTS := fk (G := eqTG) (A := eqTA) trivial Tryz.func202 fun z r hl h => (eqT_eq _ _ hl).elim fun k hk => ⟨k, (eqTE k z.1 z.2.1).trans (hk.trans h)⟩
def ifitsG : Ctx := { ty := [(3, (.int .i64)), (22, tyStyTCl), (23, tyStyTTp), (24, tySi32), (25, tyStyTMt), (26, tySi64), (28, tyTIm)], fns := [(156, itypesS), (163, inumsS), (164, iwithinS), (160000157, containsClassS), (163000160, containsMethodS)], tips := [], n := 46, bxs := [1], ptrs := [] }
theorem ifitsE (fuel : Nat) (m : Im) : fnRun ifitsG A0 fuel Tryz.f113 ifitsS.ps ifitsS.rs (m, ()) = ifitsN m := by kernel_rfl
theorem ifitsO : FOk Tryz.prog 113 ifitsS := fk (G := ifitsG) (A := A0) ⟨itypesO, inumsO, iwithinO, containsClassO, containsMethodO, trivial⟩ Tryz.func113 fun z r _ h => ⟨0, (ifitsE 0 z.1).trans ((ifits_eq _).trans h)⟩
def getTypeG : Ctx := { ty := [(3, (.int .i64)), (39, tyTTp)], fns := [(123, getS)], tips := [], n := 14, bxs := [1000000, 2, 3], ptrs := [] }
theorem getTypeE (fuel : Nat) (r : List Int × Bool × Unit) : fnRun getTypeG A0 fuel Tryz.f178 getTypeS.ps getTypeS.rs (r, ()) = getTypeN r := by kernel_rfl
theorem getTypeO : FOk Tryz.prog 178 getTypeS := fk (G := getTypeG) (A := A0) ⟨getO, trivial⟩ Tryz.func178 fun z r _ h => ⟨0, (getTypeE 0 z.1).trans (getType_ok _ r h)⟩
def getTypesG : Ctx := { ty := [(23, tyStyTTp)], fns := [(123, getS), (145, clipTS), (178, getTypeS)], tips := [11], n := 19, bxs := [1000000], ptrs := [] }
def getTypesA : Ann := ⟨[(3, (3, [.val 5 (tyStyTTp) true, .val 9 ((.int .i64)) false, .box 1000000 204 [(tySu8, false), (.bool, false)]]))], [], [], []⟩
theorem getTypesE (fuel : Nat) (r : List Int × Bool × Unit) (m : Int) : fnRun getTypesG getTypesA fuel Tryz.f124 getTypesS.ps getTypesS.rs (r, m, ()) = getTypesN fuel r m := by kernel_rfl
theorem getTypesO : FOk Tryz.prog 124 getTypesS := fk (G := getTypesG) (A := getTypesA) ⟨getO, clipTO, getTypeO, trivial⟩ Tryz.func124 fun z r _ h => (getTypes_ok _ _ r h).elim fun k hk => ⟨k, (getTypesE k z.1 z.2.1).trans hk⟩
def getNumsG : Ctx := { ty := [(26, tySi64)], fns := [(107, clipIS), (123, getS)], tips := [13], n := 22, bxs := [1000000], ptrs := [] }
def getNumsA : Ann := ⟨[(3, (3, [.val 7 (tySi64) true, .val 11 ((.int .i64)) false, .box 1000000 204 [(tySu8, false), (.bool, false)]]))], [], [], []⟩
theorem getNumsE (fuel : Nat) (r : List Int × Bool × Unit) (c : Int) (m : Int) : fnRun getNumsG getNumsA fuel Tryz.f125 getNumsS.ps getNumsS.rs (r, c, m, ()) = getNumsN fuel r c m := by kernel_rfl
theorem getNumsO : FOk Tryz.prog 125 getNumsS := fk (G := getNumsG) (A := getNumsA) ⟨clipIO, getO, trivial⟩ Tryz.func125 fun z r _ h => (getNums_ok _ _ _ r h).elim fun k hk => ⟨k, (getNumsE k z.1 z.2.1 z.2.2.1).trans hk⟩
def getMethodG : Ctx := { ty := [(3, (.int .i64)), (26, tySi64), (40, tyStyTIns), (42, tyTMt)], fns := [(123, getS), (124, getTypesS), (125, getNumsS), (150, clipXS), (178, getTypeS), (179, igetS)], tips := [16], n := 37, bxs := [1000000, 2, 3], ptrs := [] }
def getMethodA : Ann := ⟨[(3, (3, [.val 13 ((.int .i64)) false, .box 1000000 204 [(tySu8, false), (.bool, false)], .box 3 42 [(tyStyTTp, false), (tyStyTTp, false), ((.int .i64), false), ((.int .i64), false), (tyStyTIns, true), ((.int .i64), false), ((.int .i64), false), (tySi64, true)]]))], [], [(4, [[], [], [0, 1], [0, 1], [0, 1], [], [], []])], []⟩
theorem getMethodE (fuel : Nat) (r : List Int × Bool × Unit) : fnRun getMethodG getMethodA fuel Tryz.f127 getMethodS.ps getMethodS.rs (r, ()) = getMethodN fuel r := by kernel_rfl
theorem getMethodO : FOk Tryz.prog 127 getMethodS := fk (G := getMethodG) (A := getMethodA) ⟨getO, getTypesO, getNumsO, clipXO, getTypeO, igetO, trivial⟩ Tryz.func127 fun z r _ h => (getMethod_ok _ r h).elim fun k hk => ⟨k, (getMethodE k z.1).trans hk⟩
def icopyG : Ctx := { ty := [(3, (.int .i64)), (22, tyStyTCl), (23, tyStyTTp), (24, tySi32), (25, tyStyTMt), (26, tySi64), (28, tyTIm), (40, tyStyTIns), (42, tyTMt), (106, tyTCl)], fns := [(100, anTS), (101, anJS), (102, anIS), (103, anXS), (104, clipCS), (105, clipMS)], tips := [30, 68], n := 83, bxs := [1, 2, 3, 5, 7], ptrs := [] }
def icopyA : Ann := ⟨[(3, (4, [.val 25 ((.int .i64)) false, .box 3 28 [(tyStyTCl, true), (tyStyTTp, false), (tySi32, false), (tyStyTMt, true), (tySi64, false), ((.int .i64), false), ((.int .i64), false)]])), (8, (5, [.val 47 ((.int .i64)) false, .box 3 28 [(tyStyTCl, true), (tyStyTTp, false), (tySi32, false), (tyStyTMt, true), (tySi64, false), ((.int .i64), false), ((.int .i64), false)]]))], [], [(1, [[], [], [], [0, 1, 2], [0, 1, 2], [], [0, 1, 2, 3, 4, 5], [0, 1, 2, 3, 4, 5], [], [0, 1, 2, 3, 4, 5, 6, 7, 8], [0, 1, 2, 3, 4, 5, 6, 7, 8], [0, 1, 2, 3, 4, 5, 6, 7, 8, 9, 10], [0, 1, 2, 3, 4, 5, 6, 7, 8, 9, 10], [], [0, 1, 2, 3, 4, 5, 6, 7, 8, 9, 10, 11, 12, 13], []]), (5, [[], [], [0, 1], [0, 1], [0, 1, 2, 3], [0, 1, 2, 3], [0, 1, 2, 3], [0, 1, 2, 3, 4, 5, 6], [0, 1, 2, 3, 4, 5, 6], [0, 1, 2, 3], [0, 1], [0, 1], [], [], []]), (10, [[], [], [], [0, 1, 2], [0, 1, 2], [], [0, 1, 2, 3, 4, 5], [0, 1, 2, 3, 4, 5], [], [0, 1, 2, 3, 4, 5, 6, 7, 8], [0, 1, 2, 3, 4, 5, 6, 7, 8], [], [5, 8, 11], [], [], [], [], [], [], []]), (13, [[], [], [], [0, 1, 2], [0, 1, 2], [], [5], [], [], []])], []⟩
theorem icopyE (fuel : Nat) (m : Im) : fnRun icopyG icopyA fuel Tryz.f55 icopyS.ps icopyS.rs (m, ()) = icopyN fuel m := by kernel_rfl
theorem icopyO : FOk Tryz.prog 55 icopyS := fk (G := icopyG) (A := icopyA) ⟨anTO, anJO, anIO, anXO, clipCO, clipMO, trivial⟩ Tryz.func55 fun z r _ h => (icopy_ok _ r h).elim fun k hk => ⟨k, (icopyE k z.1).trans hk⟩
def idecodeG : Ctx := { ty := [(3, (.int .i64)), (9, .str), (22, tyStyTCl), (23, tyStyTTp), (24, tySi32), (25, tyStyTMt), (26, tySi64), (28, tyTIm), (74, tySu8), (106, tyTCl)], fns := [(55, icopyS), (113, ifitsS), (122, newS), (123, getS), (124, getTypesS), (125, getNumsS), (126, glongS), (127, getMethodS), (128, finS)], tips := [29, 50, 62], n := 89, bxs := [2, 23, 5], ptrs := [] }
def idecodeA : Ann := ⟨[(6, (3, [.val 26 ((.int .i64)) false, .box 23 204 [(tySu8, false), (.bool, false)], .box 5 28 [(tyStyTCl, true), (tyStyTTp, true), (tySi32, true), (tyStyTMt, true), (tySi64, true), ((.int .i64), false), ((.int .i64), false)]])), (11, (3, [.val 47 ((.int .i64)) false, .box 23 204 [(tySu8, false), (.bool, false)], .box 5 28 [(tyStyTCl, true), (tyStyTTp, false), (tySi32, true), (tyStyTMt, true), (tySi64, true), ((.int .i64), false), ((.int .i64), false)]])), (15, (3, [.val 59 ((.int .i64)) false, .box 23 204 [(tySu8, false), (.bool, false)], .box 5 28 [(tyStyTCl, true), (tyStyTTp, false), (tySi32, true), (tyStyTMt, true), (tySi64, true), ((.int .i64), false), ((.int .i64), false)]]))], [], [(7, [[], [], [0, 1], [0, 1], [0, 1], [0, 1, 2, 3, 4], [0, 1, 4], [0, 1, 2, 3, 4, 5, 6], [0, 1, 4], [0, 1], [0, 1], [], [], []]), (12, [[], [], [0, 1], [0, 1], [0, 1], [], [], []]), (16, [[], [], [0, 1], [0, 1], [0, 1], [], [], []])], []⟩
theorem idecodeE (fuel : Nat) (b : List Int) : fnRun idecodeG idecodeA fuel Tryz.f77 idecodeS.ps idecodeS.rs (b, ()) = idecodeN fuel b := by kernel_rfl
theorem idecodeO : FOk Tryz.prog 77 idecodeS := fk (G := idecodeG) (A := idecodeA) ⟨icopyO, ifitsO, newO, getO, getTypesO, getNumsO, glongO, getMethodO, finO, trivial⟩ Tryz.func77 fun z r _ h => (idecode_ok _ r h).elim fun k hk => ⟨k, (idecodeE k z.1).trans hk⟩
def kgoodG : Ctx := { ty := [(3, (.int .i64)), (39, tyTTp)], fns := [], tips := [], n := 24, bxs := [2], ptrs := [] }
def kgoodA : Ann := ⟨[], [(2, (2, [.val 7 (.bool) false]))], [], []⟩
theorem kgoodE (fuel : Nat) (t : Tp) (n : Int) : fnRun kgoodG kgoodA fuel Tryz.f165 kgoodS.ps kgoodS.rs (t, n, ()) = kgoodN t n := by kernel_rfl
theorem kgoodO : FOk Tryz.prog 165 kgoodS := fk (G := kgoodG) (A := kgoodA) trivial Tryz.func165 fun z r _ h => ⟨0, (kgoodE 0 z.1 z.2.1).trans ((kgood_eq _ _).trans h)⟩
def kisrefG : Ctx := { ty := [(3, (.int .i64)), (39, tyTTp)], fns := [], tips := [], n := 16, bxs := [1], ptrs := [] }
theorem kisrefE (fuel : Nat) (t : Tp) : fnRun kisrefG A0 fuel Tryz.f143 kisrefS.ps kisrefS.rs (t, ()) = kisrefN t := by kernel_rfl
theorem kisrefO : FOk Tryz.prog 143 kisrefS := fk (G := kisrefG) (A := A0) trivial Tryz.func143 fun z r _ h => ⟨0, (kisrefE 0 z.1).trans ((kisref_eq _).trans h)⟩
def kupG : Ctx := { ty := [(3, (.int .i64)), (22, tyStyTCl), (106, tyTCl)], fns := [], tips := [], n := 27, bxs := [], ptrs := [] }
theorem kupE (fuel : Nat) (l : List Cl) (c : Int) : fnRun kupG A0 fuel Tryz.f180 kupS.ps kupS.rs (l, c, ()) = kupN l c := by kernel_rfl
theorem kupO : FOk Tryz.prog 180 kupS := fk (G := kupG) (A := A0) trivial Tryz.func180 fun z r _ h => ⟨0, (kupE 0 z.1 z.2.1).trans ((kup_eq _ _).trans h)⟩
def kbelowG : Ctx := { ty := [(22, tyStyTCl)], fns := [(180, kupS)], tips := [], n := 29, bxs := [], ptrs := [] }
def kbelowA : Ann := ⟨[(3, (4, [.val 1 ((.int .i64)) false]))], [], [], []⟩
theorem kbelowE (fuel : Nat) (l : List Cl) (a : Int) (b : Int) : fnRun kbelowG kbelowA fuel Tryz.f135 kbelowS.ps kbelowS.rs (l, a, b, ()) = kbelowN fuel l a b := by kernel_rfl
theorem kbelowO : FOk Tryz.prog 135 kbelowS := fk (G := kbelowG) (A := kbelowA) ⟨kupO, trivial⟩ Tryz.func135 fun z r _ h => (kbelow_eq _ _ _).elim fun k hk => ⟨k, (kbelowE k z.1 z.2.1 z.2.2.1).trans (hk.trans h)⟩
def ksubG : Ctx := { ty := [(3, (.int .i64)), (39, tyTTp)], fns := [(135, kbelowS), (143, kisrefS)], tips := [], n := 41, bxs := [4, 5], ptrs := [] }
theorem ksubE (fuel : Nat) (l : List Cl) (a : Tp) (b : Tp) : fnRun ksubG A0 fuel Tryz.f144 ksubS.ps ksubS.rs (l, a, b, ()) = ksubN l a b := by kernel_rfl
theorem ksubO : FOk Tryz.prog 144 ksubS := fk (G := ksubG) (A := A0) ⟨kbelowO, kisrefO, trivial⟩ Tryz.func144 fun z r _ h => ⟨0, (ksubE 0 z.1 z.2.1 z.2.2.1).trans ((ksub_eq _ _ _).trans h)⟩
def raboveG : Ctx := { ty := [(3, (.int .i64)), (22, tyStyTCl), (26, tySi64), (106, tyTCl)], fns := [], tips := [16], n := 30, bxs := [], ptrs := [] }
def raboveA : Ann := ⟨[(2, (6, [.val 1 ((.int .i64)) false, .val 5 (tySi64) true]))], [], [], []⟩
theorem raboveE (fuel : Nat) (l : List Cl) (c : Int) : fnRun raboveG raboveA fuel Tryz.f89 raboveS.ps raboveS.rs (l, c, ()) = raboveN fuel l c := by kernel_rfl
theorem raboveO : FOk Tryz.prog 89 raboveS := fk (G := raboveG) (A := raboveA) trivial Tryz.func89 fun z r _ h => (rabove_ok _ _ r h).elim fun k hk => ⟨k, (raboveE k z.1 z.2.1).trans hk⟩
def rtypesG : Ctx := { ty := [(23, tyStyTTp), (39, tyTTp)], fns := [], tips := [], n := 26, bxs := [], ptrs := [] }
def rtypesA : Ann := ⟨[(4, (4, [.val 5 ((.int .i64)) false]))], [], [(6, [[], [0], [], [], [0, 1, 2, 3], [0, 1, 2, 3, 4], [0, 1, 2, 3], [0, 1, 2, 3], []])], []⟩
theorem rtypesE (fuel : Nat) (a : List Tp) (b : List Tp) : fnRun rtypesG rtypesA fuel Tryz.f60 rtypesS.ps rtypesS.rs (a, b, ()) = rtypesN fuel a b := by kernel_rfl
theorem rtypesO : FOk Tryz.prog 60 rtypesS := fk (G := rtypesG) (A := rtypesA) trivial Tryz.func60 fun z r hl h => (rtypes_eq _ _ hl).elim fun k hk => ⟨k, (rtypesE k z.1 z.2.1).trans (hk.trans h)⟩
def rintsG : Ctx := { ty := [(3, (.int .i64)), (26, tySi64)], fns := [], tips := [], n := 26, bxs := [], ptrs := [] }
def rintsA : Ann := ⟨[(4, (4, [.val 5 ((.int .i64)) false]))], [], [(6, [[], [0], [], [], [0, 1, 2, 3], [0, 1, 2, 3, 4], [0, 1, 2, 3], [0, 1, 2, 3], []])], []⟩
theorem rintsE (fuel : Nat) (a : List Int) (b : List Int) : fnRun rintsG rintsA fuel Tryz.f54 rintsS.ps rintsS.rs (a, b, ()) = rintsN fuel a b := by kernel_rfl
theorem rintsO : FOk Tryz.prog 54 rintsS := fk (G := rintsG) (A := rintsA) trivial Tryz.func54 fun z r hl h => (rints_eq _ _ hl).elim fun k hk => ⟨k, (rintsE k z.1 z.2.1).trans (hk.trans h)⟩
def r5inG : Ctx := { ty := [], fns := [], tips := [], n := 15, bxs := [], ptrs := [] }
theorem r5inE (fuel : Nat) (n : Int) (a : Int) (b : Int) : fnRun r5inG A0 fuel Tryz.f68 r5inS.ps r5inS.rs (n, a, b, ()) = r5inN n a b := by kernel_rfl
theorem r5inO : FOk Tryz.prog 68 r5inS := fk (G := r5inG) (A := A0) trivial Tryz.func68 fun z r _ h => ⟨0, (r5inE 0 z.1 z.2.1 z.2.2.1).trans ((r5in_eq _ _ _).trans h)⟩
def r5listG : Ctx := { ty := [(3, (.int .i64)), (26, tySi64)], fns := [(68, r5inS)], tips := [], n := 25, bxs := [], ptrs := [] }
def r5listA : Ann := ⟨[(4, (4, [.val 7 ((.int .i64)) false]))], [], [], []⟩
theorem r5listE (fuel : Nat) (l : List Int) (c : Int) (m : Int) : fnRun r5listG r5listA fuel Tryz.f67 r5listS.ps r5listS.rs (l, c, m, ()) = r5listN fuel l c m := by kernel_rfl
theorem r5listO : FOk Tryz.prog 67 r5listS := fk (G := r5listG) (A := r5listA) ⟨r5inO, trivial⟩ Tryz.func67 fun z r hl h => (r5list_eq _ _ _ hl).elim fun k hk => ⟨k, (r5listE k z.1 z.2.1 z.2.2.1).trans (hk.trans h)⟩
def r5typG : Ctx := { ty := [(3, (.int .i64)), (39, tyTTp)], fns := [(68, r5inS)], tips := [], n := 21, bxs := [1], ptrs := [] }
theorem r5typE (fuel : Nat) (t : Tp) : fnRun r5typG A0 fuel Tryz.f69 r5typS.ps r5typS.rs (t, ()) = r5typN t := by kernel_rfl
theorem r5typO : FOk Tryz.prog 69 r5typS := fk (G := r5typG) (A := A0) ⟨r5inO, trivial⟩ Tryz.func69 fun z r _ h => ⟨0, (r5typE 0 z.1).trans ((r5typ_eq _).trans h)⟩
def r5typesG : Ctx := { ty := [(23, tyStyTTp), (39, tyTTp)], fns := [(69, r5typS)], tips := [], n := 22, bxs := [], ptrs := [] }
def r5typesA : Ann := ⟨[(4, (4, [.val 5 ((.int .i64)) false]))], [], [], []⟩
theorem r5typesE (fuel : Nat) (l : List Tp) (c : Int) : fnRun r5typesG r5typesA fuel Tryz.f66 r5typesS.ps r5typesS.rs (l, c, ()) = r5typesN fuel l c := by kernel_rfl
theorem r5typesO : FOk Tryz.prog 66 r5typesS := fk (G := r5typesG) (A := r5typesA) ⟨r5typO, trivial⟩ Tryz.func66 fun z r hl h => (r5types_eq _ _ hl).elim fun k hk => ⟨k, (r5typesE k z.1 z.2.1).trans (hk.trans h)⟩
def r5fitsG : Ctx := { ty := [(3, (.int .i64)), (22, tyStyTCl), (23, tyStyTTp), (24, tySi32), (25, tyStyTMt), (26, tySi64), (28, tyTIm), (39, tyTTp), (40, tyStyTIns), (42, tyTMt), (45, tyTIns), (106, tyTCl)], fns := [(66, r5typesS), (67, r5listS), (68, r5inS), (69, r5typS), (70, rinstrS)], tips := [], n := 142, bxs := [1, 4, 6], ptrs := [] }
def r5fitsA : Ann := ⟨[(4, (5, [.val 3 ((.int .i64)) false])), (10, (10, [.val 5 ((.int .i64)) false])), (16, (4, [.val 7 ((.int .i64)) false]))], [], [], []⟩
theorem r5fitsE (fuel : Nat) (m : Im) : fnRun r5fitsG r5fitsA fuel Tryz.f34 r5fitsS.ps r5fitsS.rs (m, ()) = r5fitsN fuel m := by kernel_rfl
theorem r5fitsO : FOk Tryz.prog 34 r5fitsS := fk (G := r5fitsG) (A := r5fitsA) ⟨r5typesO, r5listO, r5inO, r5typO, rinstrO, trivial⟩ Tryz.func34 fun z r hl h => (r5fits_eq _ hl).elim fun k hk => ⟨k, (r5fitsE k z.1).trans (hk.trans h)⟩
def r5numsG : Ctx := { ty := [(3, (.int .i64)), (26, tySi64), (74, tySu8)], fns := [(71, rbytesS)], tips := [14, 21], n := 22, bxs := [], ptrs := [] }
def r5numsA : Ann := ⟨[(3, (3, [.val 3 (tySu8) true, .val 4 ((.int .i64)) false]))], [], [], []⟩
theorem r5numsE (fuel : Nat) (l : List Int) : fnRun r5numsG r5numsA fuel Tryz.f73 r5numsS.ps r5numsS.rs (l, ()) = r5numsN fuel l := by kernel_rfl
theorem r5numsO : FOk Tryz.prog 73 r5numsS := fk (G := r5numsG) (A := r5numsA) ⟨rbytesO, trivial⟩ Tryz.func73 fun z r _ h => (r5nums_ok _ r h).elim fun k hk => ⟨k, (r5numsE k z.1).trans hk⟩
def r5oneG : Ctx := { ty := [(3, (.int .i64)), (39, tyTTp), (74, tySu8)], fns := [(71, rbytesS)], tips := [], n := 14, bxs := [1], ptrs := [] }
def r5oneA : Ann := ⟨[], [], [(2, [[], [0], [0], [], [], []])], []⟩
theorem r5oneE (fuel : Nat) (t : Tp) : fnRun r5oneG r5oneA fuel Tryz.f75 r5oneS.ps r5oneS.rs (t, ()) = r5oneN t := by kernel_rfl
theorem r5oneO : FOk Tryz.prog 75 r5oneS := fk (G := r5oneG) (A := r5oneA) ⟨rbytesO, trivial⟩ Tryz.func75 fun z r _ h => ⟨0, (r5oneE 0 z.1).trans (r5one_ok _ r h)⟩
def r5severalG : Ctx := { ty := [(23, tyStyTTp), (39, tyTTp), (74, tySu8)], fns := [(71, rbytesS), (75, r5oneS)], tips := [14, 21], n := 22, bxs := [], ptrs := [] }
def r5severalA : Ann := ⟨[(3, (3, [.val 3 (tySu8) true, .val 4 ((.int .i64)) false]))], [], [], []⟩
theorem r5severalE (fuel : Nat) (l : List Tp) : fnRun r5severalG r5severalA fuel Tryz.f72 r5severalS.ps r5severalS.rs (l, ()) = r5severalN fuel l := by kernel_rfl
theorem r5severalO : FOk Tryz.prog 72 r5severalS := fk (G := r5severalG) (A := r5severalA) ⟨rbytesO, r5oneO, trivial⟩ Tryz.func72 fun z r _ h => (r5several_ok _ r h).elim fun k hk => ⟨k, (r5severalE k z.1).trans hk⟩
def r5encodeG : Ctx := { ty := [(3, (.int .i64)), (21, (.int .i32)), (22, tyStyTCl), (23, tyStyTTp), (24, tySi32), (25, tyStyTMt), (26, tySi64), (28, tyTIm), (39, tyTTp), (40, tyStyTIns), (42, tyTMt), (45, tyTIns), (74, tySu8), (106, tyTCl)], fns := [(71, rbytesS), (72, r5severalS), (73, r5numsS), (74, rsignedS), (75, r5oneS), (76, rargsS)], tips := [23, 33, 42, 51, 56, 69, 77, 95, 108, 121, 138, 155, 164, 177], n := 190, bxs := [1, 7], ptrs := [] }
def r5encodeA : Ann := ⟨[(3, (5, [.val 3 (tySu8) true, .val 4 ((.int .i64)) false])), (11, (3, [.val 3 (tySu8) true, .val 5 ((.int .i64)) false])), (16, (14, [.val 3 (tySu8) true, .val 6 ((.int .i64)) false])), (22, (7, [.val 3 (tySu8) true, .val 8 ((.int .i64)) false]))], [(25, (2, [.val 3 (tySu8) true]))], [(19, [[], [0], [0], [0], [], [0, 1, 2, 3, 4], [0, 1, 2, 3, 4], [], [], [0, 1, 2, 3, 4, 5, 6, 7, 8], [0, 1, 2, 3, 4, 5, 6, 7, 8], [], [], []]), (29, [[], [0], [0], [0], [], [0, 1, 2, 3, 4], [0, 1, 2, 3, 4], [], [], [0, 1, 2, 3, 4, 5, 6, 7, 8], [0, 1, 2, 3, 4, 5, 6, 7, 8], [], [], []]), (30, [[], [0], [0], [0], [], [0, 1, 2, 3, 4], [0, 1, 2, 3, 4], [], [], [0, 1, 2, 3, 4, 5, 6, 7, 8], [0, 1, 2, 3, 4, 5, 6, 7, 8], [], [], []])], []⟩
theorem r5encodeE (fuel : Nat) (m : Im) : fnRun r5encodeG r5encodeA fuel Tryz.f35 r5encodeS.ps r5encodeS.rs (m, ()) = r5encodeN fuel m := by kernel_rfl
theorem r5encodeO : FOk Tryz.prog 35 r5encodeS := fk (G := r5encodeG) (A := r5encodeA) ⟨rbytesO, r5severalO, r5numsO, rsignedO, r5oneO, rargsO, trivial⟩ Tryz.func35 fun z r _ h => (r5encode_ok _ r h).elim fun k hk => ⟨k, (r5encodeE k z.1).trans hk⟩
def r5sameG : Ctx := { ty := [(3, (.int .i64)), (21, (.int .i32)), (22, tyStyTCl), (23, tyStyTTp), (24, tySi32), (25, tyStyTMt), (26, tySi64), (28, tyTIm), (39, tyTTp), (40, tyStyTIns), (42, tyTMt), (45, tyTIns), (106, tyTCl)], fns := [(54, rintsS), (60, rtypesS)], tips := [], n := 211, bxs := [2, 3, 7, 8, 10, 11], ptrs := [] }
def r5sameA : Ann := ⟨[(4, (4, [.val 5 ((.int .i64)) false])), (9, (5, [.val 6 ((.int .i64)) false])), (15, (10, [.val 9 ((.int .i64)) false])), (21, (4, [.val 12 ((.int .i64)) false]))], [], [(6, [[], [], [0, 1], [], [], [0, 1, 2, 3, 4], [0, 1, 2, 3, 4], [0, 1, 2, 3, 4, 5, 6], [0, 1, 2, 3, 4], [0, 1, 2, 3, 4], []]), (11, [[], [], [0, 1], [], [], [0, 1, 2, 3, 4], [0, 1, 2, 3, 4], [0, 1, 2, 3, 4, 5, 6], [0, 1, 2, 3, 4], [0, 1, 2, 3, 4], [0, 1, 2, 3, 4, 5, 6, 7, 8, 9], [0, 1, 2, 3, 4, 5, 6, 7, 8, 9, 10], [5, 6, 7, 8, 9], []]), (17, [[], [], [0, 1], [], [], [0, 1, 2, 3, 4], [0, 1, 2, 3, 4], [0, 1, 2, 3, 4, 5, 6], [0, 1, 2, 3, 4], [0, 1, 2, 3, 4], [0, 1, 2, 3, 4, 5, 6, 7, 8, 9], [0, 1, 2, 3, 4, 5, 6, 7, 8, 9, 10], [5, 6, 7, 8, 9], []]), (23, [[], [], [0, 1], [], [], [0, 1, 2, 3, 4], [0, 1, 2, 3, 4], [0, 1, 2, 3, 4, 5, 6], [0, 1, 2, 3, 4], [0, 1, 2, 3, 4], []])], [(11, [0, 1, 2, 3, 4, 8, 9, 10, 11, 12, 5, 6, 7, 13]), (17, [0, 1, 2, 3, 4, 8, 9, 10, 11, 12, 5, 6, 7, 13])]⟩
theorem r5sameE (fuel : Nat) (a : Im) (b : Im) : fnRun r5sameG r5sameA fuel Tryz.f24 r5sameS.ps r5sameS.rs (a, b, ()) = r5sameN fuel a b := by kernel_rfl
theorem r5sameO : FOk Tryz.prog 24 r5sameS := fk (G := r5sameG) (A := r5sameA) ⟨rintsO, rtypesO, trivial⟩ Tryz.func24 fun z r hl h => (r5same_eq _ _ hl).elim fun k hk => ⟨k, (r5sameE k z.1 z.2.1).trans (hk.trans h)⟩
def r5fieldsG : Ctx := { ty := [(3, (.int .i64)), (22, tyStyTCl), (23, tyStyTTp), (26, tySi64), (28, tyTIm), (106, tyTCl)], fns := [(89, raboveS)], tips := [20, 31], n := 32, bxs := [2], ptrs := [] }
def r5fieldsA : Ann := ⟨[(4, (3, [.val 6 (tyStyTTp) true, .val 7 ((.int .i64)) false]))], [], [(6, [[], [0], [0], [0, 1, 2], [0, 1, 2, 3], [0, 1, 2], [0, 1, 2], [0], [0], [0], [], []])], []⟩
theorem r5fieldsE (fuel : Nat) (m : Im) (c : Int) : fnRun r5fieldsG r5fieldsA fuel Tryz.f45 r5fieldsS.ps r5fieldsS.rs (m, c, ()) = r5fieldsN fuel m c := by kernel_rfl
theorem r5fieldsO : FOk Tryz.prog 45 r5fieldsS := fk (G := r5fieldsG) (A := r5fieldsA) ⟨raboveO, trivial⟩ Tryz.func45 fun z r _ h => (r5fields_ok _ _ r h).elim fun k hk => ⟨k, (r5fieldsE k z.1 z.2.1).trans hk⟩
def sinG : Ctx := { ty := [], fns := [], tips := [], n := 12, bxs := [], ptrs := [] }
theorem sinE (fuel : Nat) (n : Int) (c : Int) : fnRun sinG A0 fuel Tryz.f167 sinS.ps sinS.rs (n, c, ()) = sinN n c := by kernel_rfl
theorem sinO : FOk Tryz.prog 167 sinS := fk (G := sinG) (A := A0) trivial Tryz.func167 fun z r _ h => ⟨0, (sinE 0 z.1 z.2.1).trans ((sin_eq _ _).trans h)⟩
def sallG : Ctx := { ty := [(22, tyStyTCl), (23, tyStyTTp), (28, tyTIm), (39, tyTTp), (178, tyStyStyTTp)], fns := [(165, kgoodS)], tips := [], n := 29, bxs := [2, 8], ptrs := [] }
def sallA : Ann := ⟨[(2, (9, [.val 11 ((.int .i64)) false])), (5, (5, [.val 17 ((.int .i64)) false]))], [], [], []⟩
theorem sallE (fuel : Nat) (m : Im) (l : List (List Tp)) : fnRun sallG sallA fuel Tryz.f114 sallS.ps sallS.rs (m, l, ()) = sallN fuel m l := by kernel_rfl
theorem sallO : FOk Tryz.prog 114 sallS := fk (G := sallG) (A := sallA) ⟨kgoodO, trivial⟩ Tryz.func114 fun z r hl h => (sall_eq _ _ hl).elim fun k hk => ⟨k, (sallE k z.1 z.2.1).trans (hk.trans h)⟩
def saboveG : Ctx := { ty := [(3, (.int .i64)), (22, tyStyTCl), (23, tyStyTTp), (26, tySi64), (28, tyTIm), (106, tyTCl)], fns := [], tips := [], n := 47, bxs := [2], ptrs := [] }
def saboveA : Ann := ⟨[(5, (3, [.val 4 ((.int .i64)) false, .val 7 ((.int .i64)) false]))], [(1, (3, [.val 5 (tySi64) false]))], [], []⟩
theorem saboveE (fuel : Nat) (m : Im) (c : Int) : fnRun saboveG saboveA fuel Tryz.f166 saboveS.ps saboveS.rs (m, c, ()) = saboveN fuel m c := by kernel_rfl
theorem saboveO : FOk Tryz.prog 166 saboveS := fk (G := saboveG) (A := saboveA) trivial Tryz.func166 fun z r _ h => (sabove_ok _ _ r h).elim fun k hk => ⟨k, (saboveE k z.1 z.2.1).trans hk⟩
def sfitsG : Ctx := { ty := [(22, tyStyTCl), (23, tyStyTTp), (25, tyStyTMt), (28, tyTIm), (39, tyTTp), (42, tyTMt)], fns := [(144, ksubS)], tips := [], n := 28, bxs := [3, 7], ptrs := [] }
def sfitsA : Ann := ⟨[], [], [(2, [[], [], [], [], [], [], [], [5, 6], [5, 6], [5, 6, 7, 8], [5, 6, 7, 8], [5, 6, 7, 8], [5, 6, 7, 8], [], [], []])], []⟩
theorem sfitsE (fuel : Nat) (m : Im) (c : Int) (f : Int) : fnRun sfitsG sfitsA fuel Tryz.f168 sfitsS.ps sfitsS.rs (m, c, f, ()) = sfitsN m c f := by kernel_rfl
theorem sfitsO : FOk Tryz.prog 168 sfitsS := fk (G := sfitsG) (A := sfitsA) ⟨ksubO, trivial⟩ Tryz.func168 fun z r _ h => ⟨0, (sfitsE 0 z.1 z.2.1 z.2.2.1).trans (sfits_ok _ _ _ r h)⟩
def salikeG : Ctx := { ty := [(23, tyStyTTp), (39, tyTTp), (42, tyTMt)], fns := [(202, eqTS)], tips := [], n := 31, bxs := [2, 3], ptrs := [] }
def salikeA : Ann := ⟨[], [], [(1, [[], [], [], [], [], [], [], [], [], [], [], [], [], [], [11, 12, 13], [11, 12, 13], [11, 12, 13], [], [], [], [], [], [20, 21], [20, 21], [], [], []])], []⟩
theorem salikeE (fuel : Nat) (a : Mt) (b : Mt) : fnRun salikeG salikeA fuel Tryz.f169 salikeS.ps salikeS.rs (a, b, ()) = salikeN a b := by kernel_rfl
theorem salikeO : FOk Tryz.prog 169 salikeS := fk (G := salikeG) (A := salikeA) ⟨eqTO, trivial⟩ Tryz.func169 fun z r _ h => ⟨0, (salikeE 0 z.1 z.2.1).trans ((salike_eq _ _).trans h)⟩
def sclassG : Ctx := { ty := [(3, (.int .i64)), (22, tyStyTCl), (23, tyStyTTp), (25, tyStyTMt), (26, tySi64), (28, tyTIm), (42, tyTMt), (106, tyTCl), (178, tyStyStyTTp)], fns := [(114, sallS), (166, saboveS), (167, sinS), (168, sfitsS), (169, salikeS)], tips := [], n := 92, bxs := [2, 5], ptrs := [] }
def sclassA : Ann := ⟨[(8, (5, [.val 50 ((.int .i64)) false]))], [], [(10, [[], [0], [0], [0], [], [], [], [], [7], [7, 8], [], [], [], [], [], [14], [14], [], [], [], [], [19, 20], [], [], [19, 20, 21, 22, 23], [19, 20, 21, 22, 23], [19, 20, 21, 22, 23, 24, 25], [19, 20, 21, 22, 23, 24, 25, 26], [19, 20, 21, 22, 23, 24, 25], [19, 20, 21, 22, 23, 24, 25], [19, 20, 21, 22, 23], [19, 20, 21, 22, 23], [], [], [], []])], []⟩
theorem sclassE (fuel : Nat) (m : Im) (c : Int) : fnRun sclassG sclassA fuel Tryz.f115 sclassS.ps sclassS.rs (m, c, ()) = sclassN fuel m c := by kernel_rfl
theorem sclassO : FOk Tryz.prog 115 sclassS := fk (G := sclassG) (A := sclassA) ⟨sallO, saboveO, sinO, sfitsO, salikeO, trivial⟩ Tryz.func115 fun z r _ h => (sclass_ok _ _ r h).elim fun k hk => ⟨k, (sclassE k z.1 z.2.1).trans hk⟩
def sfieldsG : Ctx := { ty := [(22, tyStyTCl), (23, tyStyTTp), (28, tyTIm), (106, tyTCl)], fns := [(166, saboveS)], tips := [], n := 21, bxs := [], ptrs := [] }
theorem sfieldsE (fuel : Nat) (c : Int) (m : Im) : fnRun sfieldsG A0 fuel Tryz.f170 sfieldsS.ps sfieldsS.rs (c, m, ()) = sfieldsN c m := by kernel_rfl
theorem sfieldsO : FOk Tryz.prog 170 sfieldsS := fk (G := sfieldsG) (A := A0) ⟨saboveO, trivial⟩ Tryz.func170 fun z r _ h => ⟨0, (sfieldsE 0 z.1 z.2.1).trans (sfields_ok _ _ r h)⟩
def sinstrG : Ctx := { ty := [(3, (.int .i64)), (22, tyStyTCl), (23, tyStyTTp), (24, tySi32), (25, tyStyTMt), (26, tySi64), (28, tyTIm), (40, tyStyTIns), (42, tyTMt), (45, tyTIns), (106, tyTCl)], fns := [(167, sinS), (170, sfieldsS)], tips := [], n := 106, bxs := [4, 5, 6], ptrs := [] }
def sinstrA : Ann := ⟨[], [(4, (2, [.val 19 (.bool) false])), (7, (2, [.val 32 (.bool) false])), (10, (2, [.val 41 (.bool) false])), (13, (2, [.val 50 (.bool) false])), (16, (2, [.val 68 (.bool) false]))], [(15, [[], [], [0, 1], [0, 1], [0, 1], [], [], [], [], [7, 8], [7, 8, 9], [7, 8, 9], [7, 8], [], [], []]), (22, [[], [], [0, 1], [0, 1], [0, 1], [], [], [], [], [7, 8], [7, 8], [7, 8, 9, 10], [7, 8, 9, 10], [7, 8], [7, 8], [7, 8], [7, 8], [], [], []])], []⟩
theorem sinstrE (fuel : Nat) (m : Im) (x : Mt) (i : Ins) (f : Im × Unit) : fnRun sinstrG sinstrA fuel Tryz.f171 sinstrS.ps sinstrS.rs (m, x, i, f, ()) = sinstrN m x i f := by kernel_rfl
theorem sinstrO : FOk Tryz.prog 171 sinstrS := fk (G := sinstrG) (A := sinstrA) ⟨sinO, sfieldsO, trivial⟩ Tryz.func171 fun z r _ h => ⟨0, (sinstrE 0 z.1 z.2.1 z.2.2.1 z.2.2.2.1).trans (sinstr_ok _ _ _ _ r h)⟩
def smethodG : Ctx := { ty := [(23, tyStyTTp), (26, tySi64), (28, tyTIm), (39, tyTTp), (40, tyStyTIns), (42, tyTMt), (45, tyTIns), (178, tyStyStyTTp)], fns := [(114, sallS), (172000171, sinstrS)], tips := [], n := 69, bxs := [2, 3, 7], ptrs := [] }
def smethodA : Ann := ⟨[(7, (5, [.val 58 ((.int .i64)) false]))], [(1, (2, []))], [], []⟩
theorem smethodE (fuel : Nat) (m : Im) (x : Mt) : fnRun smethodG smethodA fuel Tryz.f116 smethodS.ps smethodS.rs (m, x, ()) = smethodN fuel m x := by kernel_rfl
theorem smethodO : FOk Tryz.prog 116 smethodS := fk (G := smethodG) (A := smethodA) ⟨sallO, sinstrO, trivial⟩ Tryz.func116 fun z r _ h => (smethod_ok _ _ r h).elim fun k hk => ⟨k, (smethodE k z.1 z.2.1).trans hk⟩
def sentryG : Ctx := { ty := [(3, (.int .i64)), (23, tyStyTTp), (25, tyStyTMt), (28, tyTIm), (39, tyTTp), (42, tyTMt), (95, .any)], fns := [(167, sinS), (172, sentry1S), (176000173, containsEntryS)], tips := [], n := 35, bxs := [2, 5, 6], ptrs := [] }
theorem sentryE (fuel : Nat) (m : Im) (f : Int) : fnRun sentryG A0 fuel Tryz.f117 sentryS.ps sentryS.rs (m, f, ()) = sentryN m f := by kernel_rfl
theorem sentryO : FOk Tryz.prog 117 sentryS := fk (G := sentryG) (A := A0) ⟨sinO, sentry1O, containsEntryO, trivial⟩ Tryz.func117 fun z r _ h => ⟨0, (sentryE 0 z.1 z.2.1).trans (sentry_ok _ _ r h)⟩
def scheckG : Ctx := { ty := [(3, (.int .i64)), (22, tyStyTCl), (23, tyStyTTp), (25, tyStyTMt), (26, tySi64), (28, tyTIm), (42, tyTMt), (178, tyStyStyTTp)], fns := [(113, ifitsS), (114, sallS), (115, sclassS), (116, smethodS), (117, sentryS)], tips := [], n := 52, bxs := [1, 5], ptrs := [] }
def scheckA : Ann := ⟨[(6, (5, [.val 20 ((.int .i64)) false])), (12, (5, [.val 31 ((.int .i64)) false])), (18, (5, [.val 43 ((.int .i64)) false]))], [], [], []⟩
theorem scheckE (fuel : Nat) (m : Im) : fnRun scheckG scheckA fuel Tryz.f62 scheckS.ps scheckS.rs (m, ()) = scheckN fuel m := by kernel_rfl
theorem scheckO : FOk Tryz.prog 62 scheckS := fk (G := scheckG) (A := scheckA) ⟨ifitsO, sallO, sclassO, smethodO, sentryO, trivial⟩ Tryz.func62 fun z r hl h => (scheck_eq _ hl).elim fun k hk => ⟨k, (scheckE k z.1).trans (hk.trans h)⟩
def cbelowG : Ctx := { ty := [(22, tyStyTCl), (26, tySi64), (28, tyTIm)], fns := [(107, clipIS), (135, kbelowS)], tips := [18], n := 25, bxs := [2], ptrs := [] }
def cbelowA : Ann := ⟨[(3, (5, [.val 5 (tySi64) true, .val 10 ((.int .i64)) false]))], [], [], []⟩
theorem cbelowE (fuel : Nat) (m : Im) (c : Int) : fnRun cbelowG cbelowA fuel Tryz.f87 cbelowS.ps cbelowS.rs (m, c, ()) = cbelowN fuel m c := by kernel_rfl
theorem cbelowO : FOk Tryz.prog 87 cbelowS := fk (G := cbelowG) (A := cbelowA) ⟨clipIO, kbelowO, trivial⟩ Tryz.func87 fun z r _ h => (cbelow_ok _ _ r h).elim fun k hk => ⟨k, (cbelowE k z.1 z.2.1).trans hk⟩
def cslotG : Ctx := { ty := [(3, (.int .i64)), (22, tyStyTCl), (26, tySi64), (28, tyTIm), (106, tyTCl)], fns := [], tips := [], n := 41, bxs := [3], ptrs := [] }
theorem cslotE (fuel : Nat) (m : Im) (c : Int) (n : Int) : fnRun cslotG A0 fuel Tryz.f88 cslotS.ps cslotS.rs (m, c, n, ()) = cslotN m c n := by kernel_rfl
theorem cslotO : FOk Tryz.prog 88 cslotS := fk (G := cslotG) (A := A0) trivial Tryz.func88 fun z r _ h => ⟨0, (cslotE 0 z.1 z.2.1 z.2.2.1).trans ((cslot_eq _ _ _).trans h)⟩
def ctargetsG : Ctx := { ty := [(3, (.int .i64)), (26, tySi64), (28, tyTIm), (45, tyTIns)], fns := [(87, cbelowS), (88, cslotS)], tips := [14, 39, 44], n := 45, bxs := [2, 3], ptrs := [] }
def ctargetsA : Ann := ⟨[(7, (6, [.val 5 (tySi64) true, .val 26 ((.int .i64)) false]))], [], [], []⟩
theorem ctargetsE (fuel : Nat) (m : Im) (i : Ins) : fnRun ctargetsG ctargetsA fuel Tryz.f44 ctargetsS.ps ctargetsS.rs (m, i, ()) = ctargetsN fuel m i := by kernel_rfl
theorem ctargetsO : FOk Tryz.prog 44 ctargetsS := fk (G := ctargetsG) (A := ctargetsA) ⟨cbelowO, cslotO, trivial⟩ Tryz.func44 fun z r _ h => (ctargets_ok _ _ r h).elim fun k hk => ⟨k, (ctargetsE k z.1 z.2.1).trans hk⟩
def cofG : Ctx := { ty := [(25, tyStyTMt), (26, tySi64), (28, tyTIm), (40, tyStyTIns), (42, tyTMt), (45, tyTIns)], fns := [(44, ctargetsS), (107, clipIS), (1000000000106, sortIS), (1000000000108, compactIS)], tips := [28], n := 39, bxs := [2, 5, 7, 32, 37], ptrs := [], rows := [5, 32, 37], thaws := [37] }
def cofA : Ann := ⟨[(5, (4, [.own 5 3 ((.int .i64)), .val 24 ((.int .i64)) false]))], [], [], []⟩
theorem cofE (fuel : Nat) (m : Im) (f : Int) : fnRun cofG cofA fuel Tryz.f56 cofS.ps cofS.rs (m, f, ()) = cofN fuel m f := by kernel_rfl
theorem cofO : FOk Tryz.prog 56 cofS := fk (G := cofG) (A := cofA) ⟨ctargetsO, clipIO, sortIO, compactIO, trivial⟩ Tryz.func56 fun z r _ h => (cof_ok _ _ r h).elim fun k hk => ⟨k, (cofE k z.1 z.2.1).trans hk⟩
def r5belowG : Ctx := { ty := [(22, tyStyTCl), (26, tySi64), (28, tyTIm)], fns := [(89, raboveS), (99, rinS)], tips := [21, 25], n := 26, bxs := [2], ptrs := [] }
def r5belowA : Ann := ⟨[(3, (4, [.val 5 (tySi64) true, .val 6 ((.int .i64)) false]))], [], [], []⟩
theorem r5belowE (fuel : Nat) (m : Im) (c : Int) : fnRun r5belowG r5belowA fuel Tryz.f90 r5belowS.ps r5belowS.rs (m, c, ()) = r5belowN fuel m c := by kernel_rfl
theorem r5belowO : FOk Tryz.prog 90 r5belowS := fk (G := r5belowG) (A := r5belowA) ⟨raboveO, rinO, trivial⟩ Tryz.func90 fun z r _ h => (r5below_ok _ _ r h).elim fun k hk => ⟨k, (r5belowE k z.1 z.2.1).trans hk⟩
def r5slotG : Ctx := { ty := [(3, (.int .i64)), (22, tyStyTCl), (26, tySi64), (28, tyTIm), (106, tyTCl)], fns := [], tips := [], n := 41, bxs := [3], ptrs := [] }
theorem r5slotE (fuel : Nat) (m : Im) (c : Int) (n : Int) : fnRun r5slotG A0 fuel Tryz.f91 r5slotS.ps r5slotS.rs (m, c, n, ()) = r5slotN m c n := by kernel_rfl
theorem r5slotO : FOk Tryz.prog 91 r5slotS := fk (G := r5slotG) (A := A0) trivial Tryz.func91 fun z r _ h => ⟨0, (r5slotE 0 z.1 z.2.1 z.2.2.1).trans ((r5slot_eq _ _ _).trans h)⟩
def r8targetsG : Ctx := { ty := [(3, (.int .i64)), (26, tySi64), (28, tyTIm), (45, tyTIns)], fns := [(90, r5belowS), (91, r5slotS)], tips := [14, 44, 48], n := 49, bxs := [2, 3], ptrs := [] }
def r8targetsA : Ann := ⟨[(7, (5, [.val 5 (tySi64) true, .val 7 ((.int .i64)) false]))], [(2, (2, [.val 5 (tySi64) true]))], [(9, [[], [0], [0, 1], [0], [0], [0, 1, 2, 3, 4], [0, 1, 2, 3, 4], [], [], [], [9], [10], []])], [(9, [0, 1, 2, 3, 4, 5, 6, 7, 8, 9, 11, 10, 12])]⟩
theorem r8targetsE (fuel : Nat) (m : Im) (i : Ins) : fnRun r8targetsG r8targetsA fuel Tryz.f46 r8targetsS.ps r8targetsS.rs (m, i, ()) = r8targetsN fuel m i := by kernel_rfl
theorem r8targetsO : FOk Tryz.prog 46 r8targetsS := fk (G := r8targetsG) (A := r8targetsA) ⟨r5belowO, r5slotO, trivial⟩ Tryz.func46 fun z r _ h => (r8targets_ok _ _ r h).elim fun k hk => ⟨k, (r8targetsE k z.1 z.2.1).trans hk⟩
def r8callsG : Ctx := { ty := [(25, tyStyTMt), (28, tyTIm), (40, tyStyTIns), (42, tyTMt), (45, tyTIns)], fns := [(46, r8targetsS), (99, rinS)], tips := [], n := 32, bxs := [3], ptrs := [] }
def r8callsA : Ann := ⟨[(2, (4, [.val 7 ((.int .i64)) false]))], [], [(4, [[], [0], [0], [0, 1, 2], [0], [0], [0], [0, 1, 2, 3, 4, 5, 6], [0], [0], [], [0, 1, 2, 3, 4, 5, 6, 7, 8, 9, 10], []])], []⟩
theorem r8callsE (fuel : Nat) (m : Im) (f : Int) (g : Int) : fnRun r8callsG r8callsA fuel Tryz.f61 r8callsS.ps r8callsS.rs (m, f, g, ()) = r8callsN fuel m f g := by kernel_rfl
theorem r8callsO : FOk Tryz.prog 61 r8callsS := fk (G := r8callsG) (A := r8callsA) ⟨r8targetsO, rinO, trivial⟩ Tryz.func61 fun z r _ h => (r8calls_ok _ _ _ r h).elim fun k hk => ⟨k, (r8callsE k z.1 z.2.1 z.2.2.1).trans hk⟩
def r8edgesG : Ctx := { ty := [(25, tyStyTMt), (26, tySi64), (28, tyTIm), (64, tyStySi64)], fns := [(61, r8callsS)], tips := [27, 31], n := 36, bxs := [1, 7, 3, 34], ptrs := [], rows := [3, 7, 34] }
def r8edgesA : Ann := ⟨[(3, (9, [.own 3 26 (tySi64), .val 4 ((.int .i64)) false])), (7, (4, [.val 5 (tySi64) true, .val 6 ((.int .i64)) false]))], [], [], []⟩
theorem r8edgesE (fuel : Nat) (m : Im) : fnRun r8edgesG r8edgesA fuel Tryz.f26 r8edgesS.ps r8edgesS.rs (m, ()) = r8edgesN fuel m := by kernel_rfl
theorem r8edgesO : FOk Tryz.prog 26 r8edgesS := fk (G := r8edgesG) (A := r8edgesA) ⟨r8callsO, trivial⟩ Tryz.func26 fun z r _ h => (r8edges_ok _ r h).elim fun k hk => ⟨k, (r8edgesE k z.1).trans hk⟩
def fenterG : Ctx := { ty := [(3, (.int .i64)), (4, .bool), (26, tySi64), (66, tySbool), (155, (.pair tyStySi64 (.pair tySi64 (.pair tySi64 (.pair tySbool (.pair tySi64 (.pair (.int .i64) (.pair tyStySi64 .unit))))))))], fns := [], tips := [41], n := 47, bxs := [1002000001, 1002000002, 1002000003, 1002000004, 1002000006, 1000000, 44], ptrs := [], rows := [44] }
def fenterA : Ann := ⟨[], [], [(1, [[], [], [], [], [0, 1, 2, 3], [0, 1, 2, 3, 4], [0, 1, 2, 3, 4], [0, 1, 2, 3, 4], [0, 1, 2, 3, 4], [0, 1, 2, 3, 4, 5, 6, 7, 8], [0, 1, 2, 3, 4, 5, 6, 7, 8, 9], [0, 1, 2, 3, 4, 5, 6, 7, 8, 9], [0, 1, 2, 3, 4, 5, 6, 7, 8, 9], [0, 1, 2, 3, 4, 5, 6, 7, 8, 9], [0, 1, 2, 3, 4, 5, 6, 7, 8, 9, 10, 11, 12, 13], [0, 1, 2, 3, 4, 5, 6, 7, 8, 9, 10, 11, 12, 13], [0, 1, 2, 3, 4, 5, 6, 7, 8, 9, 10, 11, 12, 13], [0, 1, 2, 3, 4, 5, 6, 7, 8, 9, 10, 11, 12, 13], [9], [9], [], []])], [(1, [0, 1, 2, 3, 4, 5, 6, 7, 8, 19, 9, 10, 11, 12, 13, 14, 15, 16, 17, 18, 20, 21])]⟩
theorem fenterE (fuel : Nat) (f : List (List Int) × List Int × List Int × List Bool × List Int × Int × List (List Int) × Unit) (n : Int) : fnRun fenterG fenterA fuel Tryz.f154 fenterS.ps fenterS.rs (f, n, ()) = fenterN f n := by kernel_rfl
theorem fenterO : FOk Tryz.prog 154 fenterS := fk (G := fenterG) (A := fenterA) trivial Tryz.func154 fun z r _ h => ⟨0, (fenterE 0 z.1 z.2.1).trans h⟩
def clipIOG : Ctx := { ty := [(26, tySi64)], fns := [], tips := [], n := 9, bxs := [0, 8], ptrs := [], rows := [1, 8] }
theorem clipIOE (fuel : Nat) (s : List Int) : fnRun clipIOG A0 fuel Tryz.f107 clipIOS.ps clipIOS.rs (s, ()) = clipION s := by kernel_rfl
theorem clipIOO : FOk Tryz.prog 107 clipIOS := fk (G := clipIOG) (A := A0) trivial Tryz.func107 fun z r _ h => ⟨0, (clipIOE 0 z.1).trans ((clipIO_eq _).trans h)⟩
def fleaveG : Ctx := { ty := [(3, (.int .i64)), (4, .bool), (26, tySi64), (64, tyStySi64), (66, tySbool), (155, (.pair tyStySi64 (.pair tySi64 (.pair tySi64 (.pair tySbool (.pair tySi64 (.pair (.int .i64) (.pair tyStySi64 .unit))))))))], fns := [(1000000000106, sortIS), (1000000000107, clipIOS)], tips := [50, 63], n := 70, bxs := [1002000001, 1002000002, 1002000003, 1002000004, 1002000006, 1000000, 4, 41, 53, 65, 67], ptrs := [], rows := [4, 41, 53, 65, 67], thaws := [65] }
def fleaveA : Ann := ⟨[(2, (6, [.own 4 3 ((.int .i64)), .lnk 1002000003 4 (.bool), .lnk 1002000004 3 ((.int .i64))]))], [], [(0, [[], [], [], [], [0, 1, 2, 3], [], [], [0, 1, 2, 3, 4, 5, 6], [0, 1, 2, 3, 4, 5, 6], [0, 1, 2, 3, 4, 5, 6], [0, 1, 2, 3, 4, 5, 6], [0, 1, 2, 3, 4, 5, 6, 7, 8, 9, 10], [0, 1, 2, 3, 4, 5, 6], [0, 1, 2, 3, 4, 5, 6], []]), (9, [[], [0], [0], [0], [0], [0, 1, 2, 3, 4], [0, 1, 2, 3, 4], [0, 1, 2, 3, 4], [0], [], [], []])], []⟩
theorem fleaveE (fuel : Nat) (f : List (List Int) × List Int × List Int × List Bool × List Int × Int × List (List Int) × Unit) (n : Int) : fnRun fleaveG fleaveA fuel Tryz.f155 fleaveS.ps fleaveS.rs (f, n, ()) = fleaveN fuel f n := by kernel_rfl
theorem fleaveO : FOk Tryz.prog 155 fleaveS := fk (G := fleaveG) (A := fleaveA) ⟨sortIO, clipIOO, trivial⟩ Tryz.func155 fun z r _ h => (fleave_ok _ _ r h).elim fun k hk => ⟨k, (fleaveE k z.1 z.2.1).trans hk⟩
def ffromG : Ctx := { ty := [(3, (.int .i64)), (4, .bool), (26, tySi64), (64, tyStySi64), (66, tySbool), (155, (.pair tyStySi64 (.pair tySi64 (.pair tySi64 (.pair tySbool (.pair tySi64 (.pair (.int .i64) (.pair tyStySi64 .unit)))))))), (188, tyTTp), (189, tyStyTTp_)], fns := [(154, fenterS), (155, fleaveS)], tips := [83], n := 169, bxs := [1002000001, 1002000002, 1002000003, 1002000004, 1002000006, 1000000, 11, 4, 87, 134], ptrs := [], rows := [4, 11, 87, 134] }
def ffromA : Ann := ⟨[(2, (17, [.own 4 188 (tyTTp), .lnk 1002000001 3 ((.int .i64)), .lnk 1002000002 3 ((.int .i64)), .lnk 1002000003 4 (.bool), .lnk 1002000004 3 ((.int .i64)), .lnk 1002000006 26 (tySi64), .box 1000000 155 [(tyStySi64, false), (.any, false), (.any, false), (.any, false), (.any, false), ((.int .i64), false), (.any, false)]])), (4, (9, [.own 4 188 (tyTTp), .ptr 5 4 0 2, .lnk 1002000002 3 ((.int .i64))]))], [(7, (1, [.val 62 (.bool) false]))], [(4, [[], [], [], [], [0, 1, 2, 3], [0, 1, 2, 3], [0, 1, 2, 3], [0, 1, 2, 3], [0, 1, 2, 3, 4, 5, 6, 7], [0, 1, 2, 3, 4, 5, 6, 7], [0, 1, 2, 3, 4, 5, 6, 7], [0, 1, 2, 3, 4, 5, 6, 7], [0, 1, 2, 3], [0, 1, 2, 3], [0, 1, 2, 3], []]), (5, [[], [], [], [], [0, 1, 2, 3], [0, 1, 2, 3], [0, 1, 2, 3], [0, 1, 2, 3], [], [], [0, 1, 2, 3, 4, 5, 6, 7, 8, 9], [0, 1, 2, 3, 4, 5, 6, 7, 8, 9], [0, 1, 2, 3, 4, 5, 6, 7, 8, 9], [0, 1, 2, 3, 4, 5, 6, 7, 8, 9], [], [], []]), (12, [[], [], [], [], [0, 1, 2, 3], [0, 1, 2, 3], [0, 1, 2, 3], [0, 1, 2, 3], [0, 1, 2, 3, 4, 5, 6, 7], [0, 1, 2, 3, 4, 5, 6, 7], [0, 1, 2, 3, 4, 5, 6, 7], [0, 1, 2, 3, 4, 5, 6, 7], [0, 1, 2, 3, 4, 5, 6, 7, 8, 9, 10, 11], [0, 1, 2, 3, 4, 5, 6, 7, 8, 9, 10, 11], [0, 1, 2, 3, 4, 5, 6, 7, 8, 9, 10, 11], [0, 1, 2, 3, 4, 5, 6, 7, 8, 9, 10, 11], [0, 1, 2, 3, 4, 5, 6, 7], [0, 1, 2, 3, 4, 5, 6, 7], [0, 1, 2, 3, 4, 5, 6, 7, 8, 9, 10, 11, 12, 13, 14, 15, 16, 17], [0, 1, 2, 3, 4, 5, 6, 7, 8, 9, 10, 11, 12, 13, 14, 15, 16, 17], [0, 1, 2, 3, 4, 5, 6, 7, 8, 9, 10, 11, 12, 13, 14, 15, 16, 17], [0, 1, 2, 3, 4, 5, 6, 7, 8, 9, 10, 11, 12, 13, 14, 15, 16, 17], [0, 1, 2, 3, 4, 5, 6, 7, 8, 9, 10, 11, 12, 13, 14, 15, 16, 17, 18, 19, 20, 21], [0, 1, 2, 3, 4, 5, 6, 7, 8, 9, 10, 11, 12, 13, 14, 15, 16, 17], [0, 1, 2, 3, 4, 5, 6, 7, 8, 9, 10, 11, 12, 13, 14, 15, 16, 17], [0, 1, 2, 3, 4, 5, 6, 7], [], []]), (18, [[], [], [], [], [0, 1, 2, 3], [0, 1, 2, 3, 4], [0, 1, 2, 3, 4], [0, 1, 2, 3, 4], [0, 1, 2, 3, 4], [0, 1, 2, 3, 4, 5, 6, 7, 8], [0, 1, 2, 3, 4], [0, 1, 2, 3, 4], [0, 1, 2, 3, 4, 5, 6, 7, 8, 9, 10, 11], [0, 1, 2, 3, 4, 5, 6, 7, 8, 9, 10, 11], [0, 1, 2, 3, 4, 5, 6, 7, 8, 9, 10, 11], [0, 1, 2, 3, 4, 5, 6, 7, 8, 9, 10, 11], [0, 1, 2, 3, 4, 5, 6, 7, 8, 9, 10, 11, 12, 13, 14, 15], [0, 1, 2, 3, 4, 5, 6, 7, 8, 9, 10, 11], [0, 1, 2, 3, 4, 5, 6, 7, 8, 9, 10, 11], [0, 1, 2, 3, 4], [], []])], []⟩
theorem ffromE (fuel : Nat) (f : List (List Int) × List Int × List Int × List Bool × List Int × Int × List (List Int) × Unit) (n : Int) : fnRun ffromG ffromA fuel Tryz.f109 ffromS.ps ffromS.rs (f, n, ()) = ffromN fuel f n := by kernel_rfl
theorem ffromO : FOk Tryz.prog 109 ffromS := fk (G := ffromG) (A := ffromA) ⟨fenterO, fleaveO, trivial⟩ Tryz.func109 fun z r _ h => (ffrom_ok _ _ r h).elim fun k hk => ⟨k, (ffromE k z.1 z.2.1).trans hk⟩
def clipIIOG : Ctx := { ty := [(64, tyStySi64)], fns := [], tips := [], n := 9, bxs := [0, 8], ptrs := [], rows := [1, 8] }
theorem clipIIOE (fuel : Nat) (s : List (List Int)) : fnRun clipIIOG A0 fuel Tryz.f110 clipIIOS.ps clipIIOS.rs (s, ()) = clipIION s := by kernel_rfl
theorem clipIIOO : FOk Tryz.prog 110 clipIIOS := fk (G := clipIIOG) (A := A0) trivial Tryz.func110 fun z r _ h => ⟨0, (clipIIOE 0 z.1).trans ((clipIIO_eq _).trans h)⟩
def ringsG : Ctx := { ty := [(3, (.int .i64)), (26, tySi64), (64, tyStySi64), (66, tySbool), (155, (.pair tyStySi64 (.pair tySi64 (.pair tySi64 (.pair tySbool (.pair tySi64 (.pair (.int .i64) (.pair tyStySi64 .unit))))))))], fns := [(109, ffromS), (1000000000110, clipIIOS)], tips := [], n := 39, bxs := [2, 10, 12, 14, 2016001, 2016002, 2016003, 2016004, 2016006, 16, 38], ptrs := [], rows := [2, 10, 12, 14, 38], lnks := [(155, [1, 2, 3, 4, 6])] }
def ringsA : Ann := ⟨[(4, (5, [.val 19 ((.int .i64)) false, .lnk 2016001 3 ((.int .i64)), .lnk 2016002 3 ((.int .i64)), .lnk 2016003 4 (.bool), .lnk 2016004 3 ((.int .i64)), .lnk 2016006 26 (tySi64), .box 16 155 [(tyStySi64, false), (.any, false), (.any, false), (.any, false), (.any, false), ((.int .i64), false), (.any, false)]]))], [], [(2, [[], [0], [0], [0, 1, 2], [0, 1, 2], [0, 1, 2, 3, 4], [0, 1, 2, 3, 4], [], [], []])], []⟩
theorem ringsE (fuel : Nat) (l : List (List Int)) : fnRun ringsG ringsA fuel Tryz.f57 ringsS.ps ringsS.rs (l, ()) = ringsN fuel l := by kernel_rfl
theorem ringsO : FOk Tryz.prog 57 ringsS := fk (G := ringsG) (A := ringsA) ⟨ffromO, clipIIOO, trivial⟩ Tryz.func57 fun z r _ h => (rings_ok _ r h).elim fun k hk => ⟨k, (ringsE k z.1).trans hk⟩
def tdeepG : Ctx := { ty := [(23, tyStyTTp), (29, tyStyStyTSh), (52, tyTSh), (53, tyStyTSh)], fns := [], tips := [], n := 32, bxs := [7], ptrs := [] }
def tdeepA : Ann := ⟨[(5, (4, [.val 5 ((.int .i64)) false, .val 21 ((.int .i64)) false]))], [], [], []⟩
theorem tdeepE (fuel : Nat) (l : List (List Sh)) (f : Int) : fnRun tdeepG tdeepA fuel Tryz.f176 tdeepS.ps tdeepS.rs (l, f, ()) = tdeepN fuel l f := by kernel_rfl
theorem tdeepO : FOk Tryz.prog 176 tdeepS := fk (G := tdeepG) (A := tdeepA) trivial Tryz.func176 fun z r _ h => (tdeep_ok _ _ r h).elim fun k hk => ⟨k, (tdeepE k z.1 z.2.1).trans hk⟩
def dframeG : Ctx := { ty := [(23, tyStyTTp), (25, tyStyTMt), (28, tyTIm), (42, tyTMt)], fns := [(176, tdeepS)], tips := [], n := 34, bxs := [3, 7], ptrs := [] }
def dframeA : Ann := ⟨[], [], [(4, [[], [], [], [], [0, 1, 2, 3], [0, 1, 2, 3], [0, 1, 2, 3], [], [0, 1, 2, 3, 4, 5, 6, 7], [0, 1, 2, 3, 4, 5, 6, 7, 8], [0, 1, 2, 3, 4, 5, 6, 7], [], []])], []⟩
theorem dframeE (fuel : Nat) (m : Im) (l : List (List Sh)) (f : Int) : fnRun dframeG dframeA fuel Tryz.f120 dframeS.ps dframeS.rs (m, l, f, ()) = dframeN m l f := by kernel_rfl
theorem dframeO : FOk Tryz.prog 120 dframeS := fk (G := dframeG) (A := dframeA) ⟨tdeepO, trivial⟩ Tryz.func120 fun z r _ h => ⟨0, (dframeE 0 z.1 z.2.1 z.2.2.1).trans h⟩
def growTG : Ctx := { ty := [(3, (.int .i64)), (23, tyStyTTp)], fns := [], tips := [], n := 27, bxs := [4, 22, 25, 0, 26], ptrs := [], rows := [0, 4, 20, 22, 25, 26], thaws := [1000009, 1000017, 1000018] }
theorem growTE (fuel : Nat) (s : Unit) (n : Int) : fnRun growTG A0 fuel Tryz.f137 growTS.ps growTS.rs (s, n, ()) = growTN s n := by kernel_rfl
theorem growTO : FOk Tryz.prog 137 growTS := fk (G := growTG) (A := A0) trivial Tryz.func137 fun z r _ h => ⟨0, (growTE 0 z.1 z.2.1).trans (growT_ok _ _ r h)⟩
def concatTG : Ctx := { ty := [(23, tyStyTTp), (178, tyStyStyTTp)], fns := [(137, growTS)], tips := [31], n := 36, bxs := [24, 6, 33], ptrs := [], rows := [6, 33] }
def concatTA : Ann := ⟨[(3, (6, [.val 3 ((.int .i64)) false, .val 11 ((.int .i64)) false])), (11, (4, [.own 6 39 (tyTTp), .val 27 ((.int .i64)) false]))], [], [], []⟩
theorem concatTE (fuel : Nat) (l : List (List Tp)) : fnRun concatTG concatTA fuel Tryz.f94 concatTS.ps concatTS.rs (l, ()) = concatTN fuel l := by kernel_rfl
theorem concatTO : FOk Tryz.prog 94 concatTS := fk (G := concatTG) (A := concatTA) ⟨growTO, trivial⟩ Tryz.func94 fun z r _ h => (concatT_ok _ r h).elim fun k hk => ⟨k, (concatTE k z.1).trans hk⟩
def indexIG : Ctx := { ty := [(3, (.int .i64)), (26, tySi64)], fns := [], tips := [], n := 19, bxs := [], ptrs := [] }
def indexIA : Ann := ⟨[(2, (5, [.val 8 ((.int .i64)) false]))], [], [], []⟩
theorem indexIE (fuel : Nat) (s : List Int) (v : Int) : fnRun indexIG indexIA fuel Tryz.f136 indexIS.ps indexIS.rs (s, v, ()) = indexIN fuel s v := by kernel_rfl
theorem indexIO : FOk Tryz.prog 136 indexIS := fk (G := indexIG) (A := indexIA) trivial Tryz.func136 fun z r hl h => (indexI_eq _ _ hl).elim fun k hk => ⟨k, (indexIE k z.1 z.2.1).trans (hk.trans h)⟩
def containsIG : Ctx := { ty := [], fns := [(136, indexIS)], tips := [], n := 9, bxs := [], ptrs := [] }
theorem containsIE (fuel : Nat) (s : List Int) (v : Int) : fnRun containsIG A0 fuel Tryz.f93 containsIS.ps containsIS.rs (s, v, ()) = containsIN s v := by kernel_rfl
theorem containsIO : FOk Tryz.prog 93 containsIS := fk (G := containsIG) (A := A0) ⟨indexIO, trivial⟩ Tryz.func93 fun z r hl h => ⟨0, (containsIE 0 z.1 z.2.1).trans ((containsI_eq _ _ hl).trans h)⟩
def clipQG : Ctx := { ty := [(46, tyStyTIq)], fns := [], tips := [], n := 9, bxs := [], ptrs := [] }
theorem clipQE (fuel : Nat) (s : List Iq) : fnRun clipQG A0 fuel Tryz.f50 clipQS.ps clipQS.rs (s, ()) = clipQN s := by kernel_rfl
theorem clipQO : FOk Tryz.prog 50 clipQS := fk (G := clipQG) (A := A0) trivial Tryz.func50 fun z r _ h => ⟨0, (clipQE 0 z.1).trans ((clipQ_eq _).trans h)⟩
def clipSSG : Ctx := { ty := [(29, tyStyStyTSh)], fns := [], tips := [], n := 9, bxs := [], ptrs := [] }
theorem clipSSE (fuel : Nat) (s : List (List Sh)) : fnRun clipSSG A0 fuel Tryz.f119 clipSSS.ps clipSSS.rs (s, ()) = clipSSN s := by kernel_rfl
theorem clipSSO : FOk Tryz.prog 119 clipSSS := fk (G := clipSSG) (A := A0) trivial Tryz.func119 fun z r _ h => ⟨0, (clipSSE 0 z.1).trans ((clipSS_eq _).trans h)⟩
def cupG : Ctx := { ty := [(3, (.int .i64)), (22, tyStyTCl), (28, tyTIm), (106, tyTCl)], fns := [], tips := [], n := 19, bxs := [2], ptrs := [] }
theorem cupE (fuel : Nat) (m : Im) (c : Int) : fnRun cupG A0 fuel Tryz.f134 cupS.ps cupS.rs (m, c, ()) = cupN m c := by kernel_rfl
theorem cupO : FOk Tryz.prog 134 cupS := fk (G := cupG) (A := A0) trivial Tryz.func134 fun z r _ h => ⟨0, (cupE 0 z.1 z.2.1).trans (cup_ok _ _ r h)⟩
def cfieldsG : Ctx := { ty := [(22, tyStyTCl), (23, tyStyTTp), (28, tyTIm), (106, tyTCl), (178, tyStyStyTTp)], fns := [(94, concatTS), (134, cupS)], tips := [], n := 26, bxs := [2], ptrs := [] }
def cfieldsA : Ann := ⟨[(4, (3, [.val 1 ((.int .i64)) false, .val 5 (tyStyTTp) false]))], [], [], []⟩
theorem cfieldsE (fuel : Nat) (m : Im) (c : Int) : fnRun cfieldsG cfieldsA fuel Tryz.f86 cfieldsS.ps cfieldsS.rs (m, c, ()) = cfieldsN fuel m c := by kernel_rfl
theorem cfieldsO : FOk Tryz.prog 86 cfieldsS := fk (G := cfieldsG) (A := cfieldsA) ⟨concatTO, cupO, trivial⟩ Tryz.func86 fun z r _ h => (cfields_ok _ _ r h).elim fun k hk => ⟨k, (cfieldsE k z.1 z.2.1).trans hk⟩
def csizeG : Ctx := { ty := [(23, tyStyTTp), (28, tyTIm)], fns := [(86, cfieldsS)], tips := [], n := 10, bxs := [2], ptrs := [] }
theorem csizeE (fuel : Nat) (m : Im) (c : Int) : fnRun csizeG A0 fuel Tryz.f43 csizeS.ps csizeS.rs (m, c, ()) = csizeN m c := by kernel_rfl
theorem csizeO : FOk Tryz.prog 43 csizeS := fk (G := csizeG) (A := A0) ⟨cfieldsO, trivial⟩ Tryz.func43 fun z r _ h => ⟨0, (csizeE 0 z.1 z.2.1).trans (csize_ok _ _ r h)⟩
def clocalG : Ctx := { ty := [(23, tyStyTTp), (39, tyTTp), (42, tyTMt)], fns := [], tips := [], n := 40, bxs := [2, 4], ptrs := [] }
theorem clocalE (fuel : Nat) (x : Mt) (n : Int) : fnRun clocalG A0 fuel Tryz.f140 clocalS.ps clocalS.rs (x, n, ()) = clocalN x n := by kernel_rfl
theorem clocalO : FOk Tryz.prog 140 clocalS := fk (G := clocalG) (A := A0) trivial Tryz.func140 fun z r _ h => ⟨0, (clocalE 0 z.1 z.2.1).trans (clocal_ok _ _ r h)⟩
def kjoinG : Ctx := { ty := [(3, (.int .i64)), (39, tyTTp)], fns := [(135, kbelowS), (144, ksubS), (180, kupS)], tips := [], n := 47, bxs := [4, 5, 6], ptrs := [] }
def kjoinA : Ann := ⟨[(8, (4, [.val 7 ((.int .i64)) false]))], [], [], []⟩
theorem kjoinE (fuel : Nat) (l : List Cl) (a : Tp) (b : Tp) : fnRun kjoinG kjoinA fuel Tryz.f213 kjoinS.ps kjoinS.rs (l, a, b, ()) = kjoinN fuel l a b := by kernel_rfl
theorem kjoinO : FOk Tryz.prog 213 kjoinS := fk (G := kjoinG) (A := kjoinA) ⟨kbelowO, ksubO, kupO, trivial⟩ Tryz.func213 fun z r _ h => (kjoin_ok _ _ _ r h).elim fun k hk => ⟨k, (kjoinE k z.1 z.2.1 z.2.2.1).trans hk⟩
def numIsG : Ctx := { ty := [], fns := [], tips := [], n := 9, bxs := [], ptrs := [] }
theorem numIsE (fuel : Nat) (o : Int) : fnRun numIsG A0 fuel Tryz.f184 numIsS.ps numIsS.rs (o, ()) = numIsN o := by kernel_rfl
theorem numIsO : FOk Tryz.prog 184 numIsS := fk (G := numIsG) (A := A0) trivial Tryz.func184 fun z r _ h => ⟨0, (numIsE 0 z.1).trans ((numIs_eq _).trans h)⟩
def fnumberG : Ctx := { ty := [(39, tyTTp)], fns := [], tips := [], n := 2, bxs := [0], ptrs := [] }
theorem fnumberE (fuel : Nat) : fnRun fnumberG A0 fuel Tryz.f182 fnumberS.ps fnumberS.rs () = some (fnumberN, ()) := by kernel_rfl
theorem fnumberO : FOk Tryz.prog 182 fnumberS := fk (G := fnumberG) (A := A0) trivial Tryz.func182 fun z r _ h => ⟨0, (fnumberE 0).trans h⟩
def farrayG : Ctx := { ty := [(39, tyTTp)], fns := [], tips := [], n := 2, bxs := [0], ptrs := [] }
theorem farrayE (fuel : Nat) : fnRun farrayG A0 fuel Tryz.f183 farrayS.ps farrayS.rs () = some (farrayN, ()) := by kernel_rfl
theorem farrayO : FOk Tryz.prog 183 farrayS := fk (G := farrayG) (A := A0) trivial Tryz.func183 fun z r _ h => ⟨0, (farrayE 0).trans h⟩
def fobjectG : Ctx := { ty := [(39, tyTTp)], fns := [], tips := [], n := 5, bxs := [2], ptrs := [] }
theorem fobjectE (fuel : Nat) (c : Int) : fnRun fobjectG A0 fuel Tryz.f141 fobjectS.ps fobjectS.rs (c, ()) = some (fobjectN c, ()) := by kernel_rfl
theorem fobjectO : FOk Tryz.prog 141 fobjectS := fk (G := fobjectG) (A := A0) trivial Tryz.func141 fun z r _ h => ⟨0, (fobjectE 0 z.1).trans h⟩
def fplain1G : Ctx := { ty := [(23, tyStyTTp)], fns := [], tips := [], n := 4, bxs := [], ptrs := [] }
theorem fplain1E (fuel : Nat) (t : List Tp) : fnRun fplain1G A0 fuel Tryz.f181 fplain1S.ps fplain1S.rs (t, ()) = some (fplain1N t, ()) := by kernel_rfl
theorem fplain1O : FOk Tryz.prog 181 fplain1S := fk (G := fplain1G) (A := A0) trivial Tryz.func181 fun z r _ h => ⟨0, (fplain1E 0 z.1).trans h⟩
def fof1G : Ctx := { ty := [(23, tyStyTTp), (39, tyTTp)], fns := [], tips := [], n := 5, bxs := [1], ptrs := [] }
theorem fof1E (fuel : Nat) (t : Tp) : fnRun fof1G A0 fuel Tryz.f139 fof1S.ps fof1S.rs (t, ()) = some (fof1N t, ()) := by kernel_rfl
theorem fof1O : FOk Tryz.prog 139 fof1S := fk (G := fof1G) (A := A0) trivial Tryz.func139 fun z r _ h => ⟨0, (fof1E 0 z.1).trans h⟩
def fcalledG : Ctx := { ty := [(3, (.int .i64)), (23, tyStyTTp), (39, tyTTp), (42, tyTMt), (141, (.pair tyStyTTp (.pair tyStyTTp .unit))), (178, tyStyStyTTp)], fns := [(94, concatTS)], tips := [], n := 24, bxs := [2, 4, 5], ptrs := [] }
theorem fcalledE (fuel : Nat) (x : Mt) (t : List Tp) : fnRun fcalledG A0 fuel Tryz.f142 fcalledS.ps fcalledS.rs (x, t, ()) = fcalledN x t := by kernel_rfl
theorem fcalledO : FOk Tryz.prog 142 fcalledS := fk (G := fcalledG) (A := A0) ⟨concatTO, trivial⟩ Tryz.func142 fun z r _ h => ⟨0, (fcalledE 0 z.1 z.2.1).trans (fcalled_ok _ _ r h)⟩
def fplainG : Ctx := { ty := [(23, tyStyTTp), (39, tyTTp), (141, (.pair tyStyTTp (.pair tyStyTTp .unit)))], fns := [(181, fplain1S), (182, fnumberS), (183, farrayS), (184, numIsS)], tips := [], n := 118, bxs := [2, 5], ptrs := [] }
theorem fplainE (fuel : Nat) (o : Int) : fnRun fplainG A0 fuel Tryz.f138 fplainS.ps fplainS.rs (o, ()) = fplainN o := by kernel_rfl
theorem fplainO : FOk Tryz.prog 138 fplainS := fk (G := fplainG) (A := A0) ⟨fplain1O, fnumberO, farrayO, numIsO, trivial⟩ Tryz.func138 fun z r _ h => ⟨0, (fplainE 0 z.1).trans ((fplain_eq _).trans h)⟩
def fofG : Ctx := { ty := [(3, (.int .i64)), (23, tyStyTTp), (25, tyStyTMt), (28, tyTIm), (39, tyTTp), (42, tyTMt), (45, tyTIns), (141, (.pair tyStyTTp (.pair tyStyTTp .unit)))], fns := [(86, cfieldsS), (88, cslotS), (138, fplainS), (139, fof1S), (140, clocalS), (141, fobjectS), (142, fcalledS)], tips := [], n := 163, bxs := [3, 4, 6, 7, 8], ptrs := [] }
def fofA : Ann := ⟨[], [], [(14, [[], [0], [0], [0], [], [0, 1, 2, 3, 4], [0, 1, 2, 3, 4, 5], [0, 1, 2, 3, 4, 5, 6], [0, 1, 2, 3, 4, 5, 6], [5], [0, 1, 2, 3, 4, 5, 6, 7, 8, 9], [0, 1, 2, 3, 4, 5, 6, 7, 8, 9], [5], [5], [], [], []]), (16, [[], [], [], [0, 1, 2], [0, 1, 2, 3], [0, 1, 2, 3], [], [0, 1, 2, 3, 4, 5, 6], [0, 1, 2, 3, 4, 5, 6], [], [], [], [], []]), (25, [[], [], [0, 1], [], [], [0, 1, 2, 3, 4], [0, 1, 2, 3, 4, 5], [0, 1, 2, 3, 4, 5], [0, 1, 2, 3, 4, 5], [0, 1, 2, 3, 4], [], []]), (27, [[], [0], [], [0, 1, 2], [0, 1, 2, 3], [0, 1, 2, 3], [3], [], [], []])], []⟩
theorem fofE (fuel : Nat) (m : Im) (i : Ins) (f : Int) : fnRun fofG fofA fuel Tryz.f95 fofS.ps fofS.rs (m, i, f, ()) = fofN m i f := by kernel_rfl
theorem fofO : FOk Tryz.prog 95 fofS := fk (G := fofG) (A := fofA) ⟨cfieldsO, cslotO, fplainO, fof1O, clocalO, fobjectO, fcalledO, trivial⟩ Tryz.func95 fun z r _ h => ⟨0, (fofE 0 z.1 z.2.1 z.2.2.1).trans (fof_ok _ _ _ r h)⟩
def ffitsG : Ctx := { ty := [(3, (.int .i64)), (22, tyStyTCl), (28, tyTIm), (39, tyTTp)], fns := [(143, kisrefS), (144, ksubS)], tips := [], n := 33, bxs := [4, 6, 7], ptrs := [] }
theorem ffitsE (fuel : Nat) (m : Im) (o : Int) (t : Tp) (w : Tp) : fnRun ffitsG A0 fuel Tryz.f96 ffitsS.ps ffitsS.rs (m, o, t, w, ()) = ffitsN m o t w := by kernel_rfl
theorem ffitsO : FOk Tryz.prog 96 ffitsS := fk (G := ffitsG) (A := A0) ⟨kisrefO, ksubO, trivial⟩ Tryz.func96 fun z r _ h => ⟨0, (ffitsE 0 z.1 z.2.1 z.2.2.1 z.2.2.2.1).trans ((ffits_eq _ _ _ _).trans h)⟩
def fnextsG : Ctx := { ty := [(3, (.int .i64)), (26, tySi64), (45, tyTIns)], fns := [], tips := [], n := 24, bxs := [2], ptrs := [] }
theorem fnextsE (fuel : Nat) (i : Ins) (pc : Int) : fnRun fnextsG A0 fuel Tryz.f92 fnextsS.ps fnextsS.rs (i, pc, ()) = fnextsN i pc := by kernel_rfl
theorem fnextsO : FOk Tryz.prog 92 fnextsS := fk (G := fnextsG) (A := A0) trivial Tryz.func92 fun z r _ h => ⟨0, (fnextsE 0 z.1 z.2.1).trans ((fnexts_eq _ _).trans h)⟩
def fstepG : Ctx := { ty := [(3, (.int .i64)), (23, tyStyTTp), (25, tyStyTMt), (26, tySi64), (28, tyTIm), (39, tyTTp), (40, tyStyTIns), (42, tyTMt), (45, tyTIns), (141, (.pair tyStyTTp (.pair tyStyTTp .unit))), (178, tyStyStyTTp)], fns := [(92, fnextsS), (93, containsIS), (94, concatTS), (95, fofS), (96, ffitsS)], tips := [], n := 130, bxs := [4, 11, 12, 15], ptrs := [] }
def fstepA : Ann := ⟨[(16, (5, [.val 9 (tySi64) false, .val 104 ((.int .i64)) false]))], [], [(18, [[], [0], [0], [0, 1, 2], [0, 1, 2, 3], [0, 1, 2, 3, 4], [0, 1, 2, 3], [0, 1, 2], [0, 1, 2], [0, 1, 2, 3, 4, 5, 6, 7, 8], [], []]), (21, [[], [0], [], [0, 1, 2], [0, 1, 2], [], [], [0, 1, 2, 3, 4, 5, 6], [7], [], []])], [(21, [0, 1, 2, 3, 4, 5, 6, 8, 7, 9, 10])]⟩
theorem fstepE (fuel : Nat) (m : Im) (f : Int) (pc : Int) (s : List Tp) : fnRun fstepG fstepA fuel Tryz.f49 fstepS.ps fstepS.rs (m, f, pc, s, ()) = fstepN fuel m f pc s := by kernel_rfl
theorem fstepO : FOk Tryz.prog 49 fstepS := fk (G := fstepG) (A := fstepA) ⟨fnextsO, containsIO, concatTO, fofO, ffitsO, trivial⟩ Tryz.func49 fun z r _ h => (fstep_ok _ _ _ _ r h).elim fun k hk => ⟨k, (fstepE k z.1 z.2.1 z.2.2.1 z.2.2.2.1).trans hk⟩
def tmergeG : Ctx := { ty := [(3, (.int .i64)), (4, .bool), (22, tyStyTCl), (23, tyStyTTp), (28, tyTIm), (39, tyTTp), (52, tyTSh)], fns := [(145, clipTS), (146, cloneTS), (202, eqTS), (213, kjoinS)], tips := [], n := 63, bxs := [3, 4, 6, 28, 9, 11], ptrs := [], rows := [9, 28], thaws := [1000056] }
def tmergeA : Ann := ⟨[(7, (6, [.val 31 ((.int .i64)) false, .row 9 39 (tyTTp)]))], [], [(9, [[], [0], [0, 1], [0, 1], [0, 1, 2, 3], [0, 1, 2, 3], [0, 1, 2, 3, 4, 5], [0, 1, 2, 3], [0, 1, 2, 3], [0, 1, 2, 3, 4, 5, 6, 7, 8], [0, 1], [], []])], []⟩
theorem tmergeE (fuel : Nat) (m : Im) (o : Sh) (s : List Tp) : fnRun tmergeG tmergeA fuel Tryz.f204 tmergeS.ps tmergeS.rs (m, o, s, ()) = tmergeN fuel m o s := by kernel_rfl
theorem tmergeO : FOk Tryz.prog 204 tmergeS := fk (G := tmergeG) (A := tmergeA) ⟨clipTO, cloneTO, eqTO, kjoinO, trivial⟩ Tryz.func204 fun z r _ h => (tmerge_ok _ _ _ r h).elim fun k hk => ⟨k, (tmergeE k z.1 z.2.1 z.2.2.1).trans hk⟩
def toneG : Ctx := { ty := [(3, (.int .i64)), (4, .bool), (23, tyStyTTp), (26, tySi64), (28, tyTIm), (52, tyTSh), (53, tyStyTSh), (66, tySbool)], fns := [(49, fstepS), (204, tmergeS)], tips := [], n := 62, bxs := [1000003, 1000004, 5, 16], ptrs := [] }
def toneA : Ann := ⟨[(5, (8, [.val 36 ((.int .i64)) false, .row 1000003 52 (tyTSh), .row 1000004 4 (.bool)]))], [], [(1, [[], [0], [0, 1], [0, 1, 2], [0, 1, 2, 3], [0, 1, 2], [0, 1, 2], [0, 1, 2], [], [], [], [10], [10, 11], [11, 12], [12], []]), (7, [[], [0], [0, 1], [0], [0], [0, 1, 2, 3, 4], [], [], [], [8], [8, 9], [0, 1, 2, 3, 4, 5, 6, 7, 8, 9, 10], [9, 10], [10], []])], [(1, [0, 1, 2, 3, 4, 5, 6, 7, 8, 9, 10, 12, 14, 11, 13, 15]), (7, [0, 1, 2, 3, 4, 5, 6, 7, 8, 11, 13, 9, 10, 12, 14])]⟩
theorem toneE (fuel : Nat) (m : Im) (f : Int) (pc : Int) (h : List Sh) (q : List Bool) : fnRun toneG toneA fuel Tryz.f175 toneS.ps toneS.rs (m, f, pc, h, q, ()) = toneN fuel m f pc h q := by kernel_rfl
theorem toneO : FOk Tryz.prog 175 toneS := fk (G := toneG) (A := toneA) ⟨fstepO, tmergeO, trivial⟩ Tryz.func175 fun z r _ h => (tone_ok _ _ _ _ _ r h).elim fun k hk => ⟨k, (toneE k z.1 z.2.1 z.2.2.1 z.2.2.2.1 z.2.2.2.2.1).trans hk⟩
def tmethodG : Ctx := { ty := [(4, .bool), (25, tyStyTMt), (28, tyTIm), (40, tyStyTIns), (42, tyTMt), (52, tyTSh), (53, tyStyTSh), (66, tySbool)], fns := [(1000000000175, toneS)], tips := [], n := 52, bxs := [2, 18, 7, 27, 8], ptrs := [], rows := [7, 8, 18, 27] }
def tmethodA : Ann := ⟨[(7, (9, [.row 7 52 (tyTSh), .row 8 4 (.bool)])), (8, (7, [.val 32 ((.int .i64)) false]))], [], [], []⟩
theorem tmethodE (fuel : Nat) (m : Im) (f : Int) : fnRun tmethodG tmethodA fuel Tryz.f118 tmethodS.ps tmethodS.rs (m, f, ()) = tmethodN fuel m f := by kernel_rfl
theorem tmethodO : FOk Tryz.prog 118 tmethodS := fk (G := tmethodG) (A := tmethodA) ⟨toneO, trivial⟩ Tryz.func118 fun z r _ h => (tmethod_ok _ _ r h).elim fun k hk => ⟨k, (tmethodE k z.1 z.2.1).trans hk⟩
def tcheckG : Ctx := { ty := [(25, tyStyTMt), (28, tyTIm), (29, tyStyStyTSh)], fns := [(118, tmethodS), (119, clipSSS)], tips := [28], n := 35, bxs := [1], ptrs := [] }
def tcheckA : Ann := ⟨[(2, (7, [.val 2 (tyStyStyTSh) true, .val 13 ((.int .i64)) false]))], [], [], []⟩
theorem tcheckE (fuel : Nat) (m : Im) : fnRun tcheckG tcheckA fuel Tryz.f63 tcheckS.ps tcheckS.rs (m, ()) = tcheckN fuel m := by kernel_rfl
theorem tcheckO : FOk Tryz.prog 63 tcheckS := fk (G := tcheckG) (A := tcheckA) ⟨tmethodO, clipSSO, trivial⟩ Tryz.func63 fun z r _ h => (tcheck_ok _ r h).elim fun k hk => ⟨k, (tcheckE k z.1).trans hk⟩
def cyc1G : Ctx := { ty := [(26, tySi64)], fns := [(93, containsIS)], tips := [], n := 7, bxs := [], ptrs := [] }
theorem cyc1E (fuel : Nat) (to : Int) (part : List Int) : fnRun cyc1G A0 fuel Tryz.f112 cyc1S.ps cyc1S.rs (to, part, ()) = cyc1N to part := by kernel_rfl
theorem cyc1O : FOk Tryz.prog 112 cyc1S := fk (G := cyc1G) (A := A0) ⟨containsIO, trivial⟩ Tryz.func112 fun z r hl h => ⟨0, (cyc1E 0 z.1 z.2.1).trans ((cyc1_eq _ _ hl).trans h)⟩
def indexCycG : Ctx := { ty := [(3, (.int .i64)), (26, tySi64)], fns := [(112, cyc1S)], tips := [], n := 19, bxs := [], ptrs := [] }
def indexCycA : Ann := ⟨[(2, (5, [.val 8 ((.int .i64)) false]))], [], [], []⟩
theorem indexCycE (fuel : Nat) (l : List Int) (c : List Int × Unit) : fnRun indexCycG indexCycA fuel Tryz.f85 indexCycS.ps indexCycS.rs (l, c, ()) = indexCycN fuel l c := by kernel_rfl
theorem indexCycO : FOk Tryz.prog 85 indexCycS := fk (G := indexCycG) (A := indexCycA) ⟨cyc1O, trivial⟩ Tryz.func85 fun z r hl h => (indexCyc_eq _ _ hl).elim fun k hk => ⟨k, (indexCycE k z.1 z.2.1).trans (hk.trans h)⟩
def containsCycG : Ctx := { ty := [], fns := [(114000085, indexCycS)], tips := [], n := 9, bxs := [], ptrs := [] }
theorem containsCycE (fuel : Nat) (l : List Int) (c : List Int × Unit) : fnRun containsCycG A0 fuel Tryz.f41 containsCycS.ps containsCycS.rs (l, c, ()) = containsCycN l c := by kernel_rfl
theorem containsCycO : FOk Tryz.prog 41 containsCycS := fk (G := containsCycG) (A := A0) ⟨indexCycO, trivial⟩ Tryz.func41 fun z r hl h => ⟨0, (containsCycE 0 z.1 z.2.1).trans ((containsCyc_eq _ _ hl).trans h)⟩
def cyclicG : Ctx := { ty := [(3, (.int .i64)), (26, tySi64), (64, tyStySi64)], fns := [(114000041, containsCycS)], tips := [], n := 28, bxs := [3], ptrs := [], thaws := [1000003] }
def cyclicA : Ann := ⟨[(2, (6, [.val 9 ((.int .i64)) false]))], [], [], []⟩
theorem cyclicE (fuel : Nat) (l : List (List Int)) (part : List Int) : fnRun cyclicG cyclicA fuel Tryz.f59 cyclicS.ps cyclicS.rs (l, part, ()) = cyclicN fuel l part := by kernel_rfl
theorem cyclicO : FOk Tryz.prog 59 cyclicS := fk (G := cyclicG) (A := cyclicA) ⟨containsCycO, trivial⟩ Tryz.func59 fun z r _ h => (cyclic_ok _ _ r h).elim fun k hk => ⟨k, (cyclicE k z.1 z.2.1).trans hk⟩
def dboundG : Ctx := { ty := [(3, (.int .i64)), (25, tyStyTMt), (26, tySi64), (28, tyTIm), (42, tyTMt), (64, tyStySi64)], fns := [(56, cofS), (57, ringsS), (59, cyclicS), (93, containsIS), (120, dframeS)], tips := [27], n := 113, bxs := [2, 37, 8], ptrs := [], rows := [8, 37] }
def dboundA : Ann := ⟨[(3, (4, [.val 6 (tyStySi64) true, .val 24 ((.int .i64)) false])), (9, (26, [.val 41 ((.int .i64)) false, .row 8 3 ((.int .i64))])), (14, (15, [.val 12 ((.int .i64)) false, .val 13 ((.int .i64)) false, .val 50 ((.int .i64)) false])), (23, (5, [.val 13 ((.int .i64)) false, .val 76 ((.int .i64)) false])), (30, (4, [.val 100 ((.int .i64)) false, .row 8 3 ((.int .i64))]))], [(17, (2, [.val 16 ((.int .i64)) false]))], [], []⟩
theorem dboundE (fuel : Nat) (m : Im) (l : List (List Sh)) : fnRun dboundG dboundA fuel Tryz.f64 dboundS.ps dboundS.rs (m, l, ()) = dboundN fuel m l := by kernel_rfl
theorem dboundO : FOk Tryz.prog 64 dboundS := fk (G := dboundG) (A := dboundA) ⟨cofO, ringsO, cyclicO, containsIO, dframeO, trivial⟩ Tryz.func64 fun z r _ h => (dbound_ok _ _ r h).elim fun k hk => ⟨k, (dboundE k z.1 z.2.1).trans hk⟩
def mul64G : Ctx := { ty := [], fns := [], tips := [], n := 51, bxs := [], ptrs := [] }
theorem mul64E (fuel : Nat) (x : Int) (y : Int) : fnRun mul64G A0 fuel Tryz.f132 mul64S.ps mul64S.rs (x, y, ()) = mul64N x y := by kernel_rfl
theorem mul64O : FOk Tryz.prog 132 mul64S := fk (G := mul64G) (A := A0) trivial Tryz.func132 fun z r _ h => ⟨0, (mul64E 0 z.1 z.2.1).trans (mul64_ok _ _ r h)⟩
def lofG : Ctx := { ty := [(130, (.pair (.int .i64) (.pair .bool .unit)))], fns := [], tips := [], n := 11, bxs := [2], ptrs := [] }
theorem lofE (fuel : Nat) (n : Int) : fnRun lofG A0 fuel Tryz.f82 lofS.ps lofS.rs (n, ()) = lofN n := by kernel_rfl
theorem lofO : FOk Tryz.prog 82 lofS := fk (G := lofG) (A := A0) trivial Tryz.func82 fun z r _ h => ⟨0, (lofE 0 z.1).trans ((lof_eq _).trans h)⟩
def lsizeG : Ctx := { ty := [(3, (.int .i64)), (172, (.int .u64))], fns := [], tips := [], n := 10, bxs := [], ptrs := [] }
theorem lsizeE (fuel : Nat) (n : Int) : fnRun lsizeG A0 fuel Tryz.f133 lsizeS.ps lsizeS.rs (n, ()) = lsizeN n := by kernel_rfl
theorem lsizeO : FOk Tryz.prog 133 lsizeS := fk (G := lsizeG) (A := A0) trivial Tryz.func133 fun z r _ h => ⟨0, (lsizeE 0 z.1).trans ((lsize_eq _).trans h)⟩
def lplusG : Ctx := { ty := [(3, (.int .i64)), (4, .bool), (130, (.pair (.int .i64) (.pair .bool .unit)))], fns := [(82, lofS)], tips := [], n := 20, bxs := [2, 3, 4], ptrs := [] }
theorem lplusE (fuel : Nat) (a : Int × Bool × Unit) (b : Int × Bool × Unit) : fnRun lplusG A0 fuel Tryz.f83 lplusS.ps lplusS.rs (a, b, ()) = lplusN a b := by kernel_rfl
theorem lplusO : FOk Tryz.prog 83 lplusS := fk (G := lplusG) (A := A0) ⟨lofO, trivial⟩ Tryz.func83 fun z r _ h => ⟨0, (lplusE 0 z.1 z.2.1).trans (lplus_ok _ _ r h)⟩
def ltimesG : Ctx := { ty := [(3, (.int .i64)), (4, .bool), (130, (.pair (.int .i64) (.pair .bool .unit)))], fns := [(82, lofS), (132, mul64S), (133, lsizeS)], tips := [], n := 39, bxs := [2, 3, 4], ptrs := [] }
def ltimesA : Ann := ⟨[], [], [(3, [[], [], [], [0, 1, 2], [0, 1, 2], [], [], [], [], [8], [9], []])], [(3, [0, 1, 2, 3, 4, 5, 6, 7, 8, 10, 9, 11])]⟩
theorem ltimesE (fuel : Nat) (a : Int × Bool × Unit) (b : Int × Bool × Unit) : fnRun ltimesG ltimesA fuel Tryz.f84 ltimesS.ps ltimesS.rs (a, b, ()) = ltimesN a b := by kernel_rfl
theorem ltimesO : FOk Tryz.prog 84 ltimesS := fk (G := ltimesG) (A := ltimesA) ⟨lofO, mul64O, lsizeO, trivial⟩ Tryz.func84 fun z r _ h => ⟨0, (ltimesE 0 z.1 z.2.1).trans (ltimes_ok _ _ r h)⟩
def lholdsG : Ctx := { ty := [(3, (.int .i64)), (4, .bool), (26, tySi64), (49, tyTIq), (130, (.pair (.int .i64) (.pair .bool .unit)))], fns := [(82, lofS), (83, lplusS), (84, ltimesS)], tips := [], n := 43, bxs := [2, 6], ptrs := [] }
def lholdsA : Ann := ⟨[(5, (4, [.val 19 ((.int .i64)) false, .box 6 130 [((.int .i64), false), (.bool, false)]]))], [], [(7, [[], [0], [0], [0, 1, 2], [0, 1, 2, 3], [0, 1, 2], [0, 1, 2], [0], [0], [], []])], []⟩
theorem lholdsE (fuel : Nat) (q : Iq) (v : List Int) : fnRun lholdsG lholdsA fuel Tryz.f40 lholdsS.ps lholdsS.rs (q, v, ()) = lholdsN fuel q v := by kernel_rfl
theorem lholdsO : FOk Tryz.prog 40 lholdsS := fk (G := lholdsG) (A := lholdsA) ⟨lofO, lplusO, ltimesO, trivial⟩ Tryz.func40 fun z r _ h => (lholds_ok _ _ r h).elim fun k hk => ⟨k, (lholdsE k z.1 z.2.1).trans hk⟩
def pshapeG : Ctx := { ty := [(29, tyStyStyTSh), (52, tyTSh), (53, tyStyTSh)], fns := [], tips := [], n := 28, bxs := [6], ptrs := [] }
theorem pshapeE (fuel : Nat) (l : List (List Sh)) (f : Int) (pc : Int) : fnRun pshapeG A0 fuel Tryz.f48 pshapeS.ps pshapeS.rs (l, f, pc, ()) = pshapeN l f pc := by kernel_rfl
theorem pshapeO : FOk Tryz.prog 48 pshapeS := fk (G := pshapeG) (A := A0) trivial Tryz.func48 fun z r _ h => ⟨0, (pshapeE 0 z.1 z.2.1 z.2.2.1).trans (pshape_ok _ _ _ r h)⟩
def pcostG : Ctx := { ty := [(3, (.int .i64)), (25, tyStyTMt), (26, tySi64), (28, tyTIm), (42, tyTMt), (45, tyTIns)], fns := [(43, csizeS), (44, ctargetsS)], tips := [], n := 50, bxs := [2, 3], ptrs := [] }
def pcostA : Ann := ⟨[(8, (5, [.val 5 ((.int .i64)) false, .val 27 ((.int .i64)) false]))], [], [], []⟩
theorem pcostE (fuel : Nat) (m : Im) (i : Ins) : fnRun pcostG pcostA fuel Tryz.f17 pcostS.ps pcostS.rs (m, i, ()) = pcostN fuel m i := by kernel_rfl
theorem pcostO : FOk Tryz.prog 17 pcostS := fk (G := pcostG) (A := pcostA) ⟨csizeO, ctargetsO, trivial⟩ Tryz.func17 fun z r _ h => (pcost_ok _ _ r h).elim fun k hk => ⟨k, (pcostE k z.1 z.2.1).trans hk⟩
def prowG : Ctx := { ty := [(3, (.int .i64)), (26, tySi64), (49, tyTIq)], fns := [], tips := [], n := 33, bxs := [2008000, 8, 11, 2009000, 9], ptrs := [], rows := [11], thaws := [32], lnks := [(49, [0])] }
theorem prowE (fuel : Nat) (n : Int) (a : Int) (b : Int) (c : Int) : fnRun prowG A0 fuel Tryz.f47 prowS.ps prowS.rs (n, a, b, c, ()) = prowN n a b c := by kernel_rfl
theorem prowO : FOk Tryz.prog 47 prowS := fk (G := prowG) (A := A0) trivial Tryz.func47 fun z r _ h => ⟨0, (prowE 0 z.1 z.2.1 z.2.2.1 z.2.2.2.1).trans (prow_ok _ _ _ _ r h)⟩
def prulesG : Ctx := { ty := [(3, (.int .i64)), (4, .bool), (23, tyStyTTp), (25, tyStyTMt), (26, tySi64), (28, tyTIm), (40, tyStyTIns), (42, tyTMt), (45, tyTIns), (46, tyStyTIq), (52, tyTSh)], fns := [(17, pcostS), (47, prowS), (48, pshapeS), (49, fstepS), (50, clipQS)], tips := [81, 94], n := 110, bxs := [3, 10, 11], ptrs := [] }
def prulesA : Ann := ⟨[(6, (14, [.val 8 (tyStyTIq) true, .val 54 ((.int .i64)) false])), (15, (4, [.val 8 (tyStyTIq) true, .val 90 ((.int .i64)) false]))], [(12, (2, [.val 8 (tyStyTIq) true]))], [], []⟩
theorem prulesE (fuel : Nat) (m : Im) (l : List (List Sh)) (f : Int) : fnRun prulesG prulesA fuel Tryz.f19 prulesS.ps prulesS.rs (m, l, f, ()) = prulesN fuel m l f := by kernel_rfl
theorem prulesO : FOk Tryz.prog 19 prulesS := fk (G := prulesG) (A := prulesA) ⟨pcostO, prowO, pshapeO, fstepO, clipQO, trivial⟩ Tryz.func19 fun z r _ h => (prules_ok _ _ _ r h).elim fun k hk => ⟨k, (prulesE k z.1 z.2.1 z.2.2.1).trans hk⟩
def pnegG : Ctx := { ty := [], fns := [], tips := [], n := 5, bxs := [], ptrs := [] }
theorem pnegE (fuel : Nat) (n : Int) : fnRun pnegG A0 fuel Tryz.f42 pnegS.ps pnegS.rs (n, ()) = some (pnegN n, ()) := by kernel_rfl
theorem pnegO : FOk Tryz.prog 42 pnegS := fk (G := pnegG) (A := A0) trivial Tryz.func42 fun z r _ h => ⟨0, (pnegE 0 z.1).trans h⟩
def indexNegG : Ctx := { ty := [(3, (.int .i64)), (26, tySi64)], fns := [(42, pnegS)], tips := [], n := 19, bxs := [], ptrs := [] }
def indexNegA : Ann := ⟨[(2, (5, [.val 8 ((.int .i64)) false]))], [], [], []⟩
theorem indexNegE (fuel : Nat) (l : List Int) (c : Unit) : fnRun indexNegG indexNegA fuel Tryz.f85 indexNegS.ps indexNegS.rs (l, c, ()) = indexNegN fuel l c := by kernel_rfl
theorem indexNegO : FOk Tryz.prog 85 indexNegS := fk (G := indexNegG) (A := indexNegA) ⟨pnegO, trivial⟩ Tryz.func85 fun z r hl h => (indexNeg_eq _ _ hl).elim fun k hk => ⟨k, (indexNegE k z.1 z.2.1).trans (hk.trans h)⟩
def containsNegG : Ctx := { ty := [], fns := [(44000085, indexNegS)], tips := [], n := 9, bxs := [], ptrs := [] }
theorem containsNegE (fuel : Nat) (l : List Int) (c : Unit) : fnRun containsNegG A0 fuel Tryz.f41 containsNegS.ps containsNegS.rs (l, c, ()) = containsNegN l c := by kernel_rfl
theorem containsNegO : FOk Tryz.prog 41 containsNegS := fk (G := containsNegG) (A := A0) ⟨indexNegO, trivial⟩ Tryz.func41 fun z r hl h => ⟨0, (containsNegE 0 z.1 z.2.1).trans ((containsNeg_eq _ _ hl).trans h)⟩
def pcheckG : Ctx := { ty := [(25, tyStyTMt), (26, tySi64), (28, tyTIm), (42, tyTMt), (46, tyStyTIq), (49, tyTIq)], fns := [(19, prulesS), (40, lholdsS), (44000041, containsNegS)], tips := [], n := 49, bxs := [2, 7, 9], ptrs := [] }
def pcheckA : Ann := ⟨[(2, (12, [.val 15 ((.int .i64)) false])), (5, (6, [.val 25 ((.int .i64)) false]))], [], [], []⟩
theorem pcheckE (fuel : Nat) (m : Im) (l : List (List Sh)) : fnRun pcheckG pcheckA fuel Tryz.f15 pcheckS.ps pcheckS.rs (m, l, ()) = pcheckN fuel m l := by kernel_rfl
theorem pcheckO : FOk Tryz.prog 15 pcheckS := fk (G := pcheckG) (A := pcheckA) ⟨prulesO, lholdsO, containsNegO, trivial⟩ Tryz.func15 fun z r _ h => (pcheck_ok _ _ r h).elim fun k hk => ⟨k, (pcheckE k z.1 z.2.1).trans hk⟩
def aneedsG : Ctx := { ty := [(3, (.int .i64)), (23, tyStyTTp), (25, tyStyTMt), (26, tySi64), (28, tyTIm), (42, tyTMt)], fns := [(64, dboundS)], tips := [], n := 56, bxs := [2], ptrs := [] }
def aneedsA : Ann := ⟨[(6, (5, [.val 4 ((.int .i64)) false, .val 8 ((.int .i64)) false, .val 23 ((.int .i64)) false]))], [(8, (1, [.val 34 (.bool) false]))], [(9, [[], [0], [0, 1], [0], [0], [], [0, 1, 2, 3, 4, 5], [0, 1, 2, 3, 4, 5, 6], [0, 1, 2, 3, 4, 5, 6], [0, 1, 2, 3, 4, 5, 6, 7, 8], [0, 1, 2, 3, 4, 5, 6], [0, 1, 2, 3, 4, 5, 6], [0, 1, 2, 3, 4, 5, 6], [0, 1, 2, 3, 4, 5], [6, 7, 8, 9, 10, 11, 12, 13], []]), (11, [[], [0], [0], [0], [0, 1, 2, 3], [0], [1, 2, 3, 4, 5], [], []])], [(11, [0, 1, 2, 3, 5, 6, 4, 7, 8])]⟩
theorem aneedsE (fuel : Nat) (m : Im) (l : List (List Sh)) : fnRun aneedsG aneedsA fuel Tryz.f31 aneedsS.ps aneedsS.rs (m, l, ()) = aneedsN fuel m l := by kernel_rfl
theorem aneedsO : FOk Tryz.prog 31 aneedsS := fk (G := aneedsG) (A := aneedsA) ⟨dboundO, trivial⟩ Tryz.func31 fun z r _ h => (aneeds_ok _ _ r h).elim fun k hk => ⟨k, (aneedsE k z.1 z.2.1).trans hk⟩
def acheckG : Ctx := { ty := [(3, (.int .i64)), (28, tyTIm), (29, tyStyStyTSh)], fns := [(15, pcheckS), (31, aneedsS), (62, scheckS), (63, tcheckS)], tips := [], n := 58, bxs := [1], ptrs := [] }
theorem acheckE (fuel : Nat) (m : Im) : fnRun acheckG A0 fuel Tryz.f29 acheckS.ps acheckS.rs (m, ()) = acheckN m := by kernel_rfl
theorem acheckO : FOk Tryz.prog 29 acheckS := fk (G := acheckG) (A := A0) ⟨pcheckO, aneedsO, scheckO, tcheckO, trivial⟩ Tryz.func29 fun z r _ h => ⟨0, (acheckE 0 z.1).trans h⟩
def abytesG : Ctx := { ty := [(28, tyTIm), (29, tyStyStyTSh)], fns := [(29, acheckS), (77, idecodeS)], tips := [], n := 28, bxs := [2, 5], ptrs := [] }
theorem abytesE (fuel : Nat) (b : List Int) : fnRun abytesG A0 fuel Tryz.f36 abytesS.ps abytesS.rs (b, ()) = abytesN b := by kernel_rfl
theorem abytesO : FOk Tryz.prog 36 abytesS := fk (G := abytesG) (A := A0) ⟨acheckO, idecodeO, trivial⟩ Tryz.func36 fun z r _ h => ⟨0, (abytesE 0 z.1).trans h⟩
def r14costG : Ctx := { ty := [(3, (.int .i64)), (23, tyStyTTp), (25, tyStyTMt), (26, tySi64), (28, tyTIm), (42, tyTMt), (45, tyTIns)], fns := [(45, r5fieldsS), (46, r8targetsS)], tips := [], n := 53, bxs := [2, 3], ptrs := [] }
def r14costA : Ann := ⟨[(8, (4, [.val 5 ((.int .i64)) false, .val 7 ((.int .i64)) false]))], [], [(10, [[], [], [0, 1], [0, 1, 2], [0, 1], [0, 1], [], [], [], [0, 1, 2, 3, 4, 5, 6, 7, 8], []]), (11, [[], [], [0, 1], [0, 1, 2], [0, 1], [0, 1], [], [], [], []])], []⟩
theorem r14costE (fuel : Nat) (m : Im) (i : Ins) : fnRun r14costG r14costA fuel Tryz.f18 r14costS.ps r14costS.rs (m, i, ()) = r14costN fuel m i := by kernel_rfl
theorem r14costO : FOk Tryz.prog 18 r14costS := fk (G := r14costG) (A := r14costA) ⟨r5fieldsO, r8targetsO, trivial⟩ Tryz.func18 fun z r _ h => (r14cost_ok _ _ r h).elim fun k hk => ⟨k, (r14costE k z.1 z.2.1).trans hk⟩
def r8sameG : Ctx := { ty := [(4, .bool), (23, tyStyTTp), (29, tyStyStyTSh), (52, tyTSh), (53, tyStyTSh)], fns := [(60, rtypesS)], tips := [], n := 75, bxs := [], ptrs := [] }
def r8sameA : Ann := ⟨[(4, (9, [.val 5 ((.int .i64)) false])), (9, (4, [.val 6 ((.int .i64)) false]))], [], [(6, [[], [0], [], [], [], [0, 1, 2, 3, 4], [0, 1, 2, 3, 4, 5], [0, 1, 2, 3, 4], [0, 1, 2, 3, 4], [0, 1, 2, 3, 4], []]), (11, [[], [0], [], [], [0, 1, 2, 3], [], [], [], [0, 1, 2, 3, 4, 5, 6, 7], [0, 1, 2, 3, 4, 5, 6, 7, 8], [0, 1, 2, 3, 4, 5, 6, 7], [0, 1, 2, 3, 4, 5, 6, 7], [0, 1, 2, 3, 4, 5, 6, 7, 8, 9, 10, 11], [0, 1, 2, 3, 4, 5, 6, 7], [0, 1, 2, 3, 4, 5, 6, 7], [0, 1, 2, 3, 4, 5, 6, 7], [], [], [], [18], [], [], [18, 19, 20, 21], [], [], [], [18, 19, 20, 21, 22, 23, 24, 25], [18, 19, 20, 21, 22, 23, 24, 25, 26], [18, 19, 20, 21, 22, 23, 24, 25], [18, 19, 20, 21, 22, 23, 24, 25], [18, 19, 20, 21, 22, 23, 24, 25, 26, 27, 28, 29], [18, 19, 20, 21, 22, 23, 24, 25], [18, 19, 20, 21, 22, 23, 24, 25], [18, 19, 20, 21, 22, 23, 24, 25], [], [], []])], []⟩
theorem r8sameE (fuel : Nat) (a : List (List Sh)) (b : List (List Sh)) : fnRun r8sameG r8sameA fuel Tryz.f33 r8sameS.ps r8sameS.rs (a, b, ()) = r8sameN fuel a b := by kernel_rfl
theorem r8sameO : FOk Tryz.prog 33 r8sameS := fk (G := r8sameG) (A := r8sameA) ⟨rtypesO, trivial⟩ Tryz.func33 fun z r _ h => (r8same_ok _ _ r h).elim fun k hk => ⟨k, (r8sameE k z.1 z.2.1).trans hk⟩
def awake16G : Ctx := { ty := [(3, (.int .i64)), (25, tyStyTMt), (26, tySi64), (28, tyTIm), (29, tyStyStyTSh), (39, tyTTp), (40, tyStyTIns), (42, tyTMt), (45, tyTIns), (64, tyStySi64)], fns := [(18, r14costS), (26, r8edgesS), (29, acheckS), (31, aneedsS), (34, r5fitsS), (36, abytesS)], tips := [], n := 92, bxs := [1, 9], ptrs := [] }
def awake16A : Ann := ⟨[], [], [(7, [[], [], [], [], [], [], [], [], [], [], [], [], [], [], [], [], [], [], [], [], [], [], [], [], [], [], [], [], [], [], [], [], [], [], [], [], [], [], [], [38], [38], [38], [38], [38], [38], [38], [], [], [], []])], []⟩
theorem awake16E (fuel : Nat) : fnRun awake16G awake16A fuel Tryz.f28 awake16S.ps awake16S.rs () = awake16N := by kernel_rfl
theorem awake16O : FOk Tryz.prog 28 awake16S := fk (G := awake16G) (A := awake16A) ⟨r14costO, r8edgesO, acheckO, aneedsO, r5fitsO, abytesO, trivial⟩ Tryz.func28 fun z r _ h => ⟨0, (awake16E 0).trans h⟩
def small16G : Ctx := { ty := [(22, tyStyTCl), (23, tyStyTTp), (24, tySi32), (25, tyStyTMt), (26, tySi64), (28, tyTIm), (40, tyStyTIns), (42, tyTMt)], fns := [], tips := [], n := 53, bxs := [1, 4], ptrs := [] }
def small16A : Ann := ⟨[(4, (5, [.val 3 ((.int .i64)) false]))], [], [], []⟩
theorem small16E (fuel : Nat) (m : Im) : fnRun small16G small16A fuel Tryz.f27 small16S.ps small16S.rs (m, ()) = small16N fuel m := by kernel_rfl
theorem small16O : FOk Tryz.prog 27 small16S := fk (G := small16G) (A := small16A) trivial Tryz.func27 fun z r hl h => (small16_eq _ hl).elim fun k hk => ⟨k, (small16E k z.1).trans (hk.trans h)⟩
def admitAlikeG : Ctx := { ty := [(28, tyTIm), (29, tyStyStyTSh), (74, tySu8)], fns := [(24, r5sameS), (27, small16S), (28, awake16S), (29, acheckS), (33, r8sameS), (34, r5fitsS), (35, r5encodeS), (36, abytesS)], tips := [], n := 62, bxs := [1, 6], ptrs := [] }
theorem admitAlikeE (fuel : Nat) (m : Im) : fnRun admitAlikeG A0 fuel Tryz.f12 admitAlikeS.ps admitAlikeS.rs (m, ()) = admitAlikeN m := by kernel_rfl
theorem admitAlikeC (hl : ∀ z, WfAll Tryz.prog admitAlikeT z → admitAlikeN z.1 = some (true, ())) : FOk Tryz.prog 12 admitAlikeS := fk (G := admitAlikeG) (A := A0) ⟨r5sameO, small16O, awake16O, acheckO, r8sameO, r5fitsO, r5encodeO, abytesO, trivial⟩ Tryz.func12 fun z r _ h => by
 by_cases hw : WfAll Tryz.prog admitAlikeT z
 ·refine ⟨0, (admitAlikeE 0 z.1).trans ((hl z hw).trans ?_)⟩
  rw [← h]
  exact (if_pos hw).symm
 ·have hn : admitAlikeS.run z = none := if_neg hw
  rw [hn] at h
  cases h
end
end Go.Pli
