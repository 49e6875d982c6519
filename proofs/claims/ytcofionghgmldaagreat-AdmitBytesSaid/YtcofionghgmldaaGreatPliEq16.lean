import Derived.Test.YtcofionghgmldaaGreatPliLaw16
import Derived.Test.YtcofionghgmldaaGreatPMSort
import Derived.Test.YtcofionghgmldaaGreatPliReach
import Derived.Test.YtcofionghgmldaaGreatPliLib13
import Derived.Test.YtcofionghgmldaaGreatPMKit
import Derived.Test.YtcofionghgmldaaGreatPMSaid
import Derived.Test.YtcofionghgmldaaGreatProg
import Derived.KernelRfl
namespace Go.Pli
open Go Go.PM
open Go.Proofs
abbrev eO:Ty:= .sl 5 (.int .u8)
abbrev dD:Ty:= .pair (.int .i64) (.pair (.int .i64) .unit)
abbrev bM:Ty:= .sl 39 dD
abbrev iZ:Ty:= .sl 21 (.int .i32)
abbrev bA:Ty:= .sl 3 (.int .i64)
abbrev lB:Ty:= .pair (.int .i64) dD
abbrev mA:Ty:= .sl 45 lB
abbrev aCv:Ty:= .pair (.int .i64) (.pair bM (.pair bA .unit))
abbrev iS:Ty:= .sl 106 aCv
abbrev kH:Ty:= .pair bM (.pair bM (.pair dD (.pair mA (.pair (.int .i64) (.pair (.int .i64) (.pair bA .unit))))))
abbrev oF:Ty:= .sl 42 kH
abbrev lC:Ty:= .sl 26 bA
abbrev oE:Ty:= .pair .bool (.pair bM .unit)
abbrev aCw:Ty:= .sl 52 oE
abbrev fZ:Ty:= .sl 53 aCw
abbrev aCu:Ty:= .pair bA (.pair (.int .i64) .unit)
abbrev vG:Ty:= .sl 49 aCu
abbrev bO:Ty:= .pair iS (.pair bM (.pair iZ (.pair oF (.pair bA dD))))
abbrev aFb:Ty:= .sl 23 bM
abbrev aFc:Ty:= .sl 4 .bool
abbrev aID:Ty:= .sl 66 aFc
abbrev aPK:Ty:= .sl 188 dD
def A0:Ann:=⟨[],[],[],[]⟩
def TY:List (TypeId×Ty):=[(3,(.int .i64)),(4,.bool),(5,(.int .u8)),(9,.str),(21,(.int .i32)),(22,iS),(23,bM),(24,iZ),(25,oF),(26,bA),(28,bO),(29,fZ),(39,dD),(40,mA),(42,kH),(45,lB),(46,vG),(49,aCu),(52,oE),(53,aCw),(62,aID),(64,lC),(66,aFc),(74,eO),(75,(.int .u16)),(95,.any),(106,aCv),(130,(.pair (.int .i64) (.pair .bool .unit))),(141,(.pair bM (.pair bM .unit))),(155,(.pair lC (.pair bA (.pair bA (.pair aFc (.pair bA (.pair (.int .i64) (.pair lC .unit)))))))),(172,(.int .u64)),(178,aFb),(188,dD),(189,aPK),(204,(.pair eO (.pair .bool .unit))),(208,(.int .u32))]
theorem bAD:aFl Tryz.prog TY=true:=by kernel_rfl
def cx (fns:List (FuncId×FSpec)) (tips:List Nat) (n:Nat) (bxs:List Nat):Ctx:={ty:=TY,fns:=fns,tips:=tips,n:=n,bxs:=bxs,ptrs:=[] }
theorem fk (G:Ctx) {f:FuncId} {fn:Func} (A:Ann) {S:FSpec} (h3:FnsOk Tryz.prog G.fns) (hf:Tryz.prog.funcs[f]? =some fn) (h:∀z r,aE2 S.ps z→S.run z=some r→∃k,aEi G A k fn S.ps S.rs z=some r) (h1:G.ty=TY:=by rfl) (h2:G.ptrs.all (aGa Tryz.prog)=true:=by kernel_rfl) (hb:fn.body.isSome=true:=by kernel_rfl) (hn:(fn.name=="runtime.NumGoroutine")=false:=by kernel_rfl) (h4:G.sets.all (aFA Tryz.prog)=true:=by rfl):FOk Tryz.prog f S:=fok (aYM (by rw[h1];exact bAD) h2 h3 h4) hf hb hn h
noncomputable section
def indexClassS:FSpec:=⟨[.val (iS),.val ((.clo 158 .unit))],[.val ((.int .i64))],fun z=>some (aD3 z.1 z.2.1,())⟩
def containsClassS:FSpec:=⟨[.val (iS),.val ((.clo 158 .unit))],[.val (.bool)],fun z=>some (aB7 z.1 z.2.1,())⟩
def indexMethodS:FSpec:=⟨[.val (oF),.val ((.clo 161 .unit))],[.val ((.int .i64))],fun z=>some (aDZ z.1 z.2.1,())⟩
def containsMethodS:FSpec:=⟨[.val (oF),.val ((.clo 161 .unit))],[.val (.bool)],fun z=>some (aB5 z.1 z.2.1,())⟩
def indexTypesS:FSpec:=⟨[.val (bM),.val ((.clo 196 .unit))],[.val ((.int .i64))],fun z=>some (aDW z.1 z.2.1,())⟩
def containsTypesS:FSpec:=⟨[.val (bM),.val ((.clo 196 .unit))],[.val (.bool)],fun z=>some (aB2 z.1 z.2.1,())⟩
def indexEntryS:FSpec:=⟨[.val (bM),.val ((.clo 174 (.pair (.clo 172 .unit) .unit)))],[.val ((.int .i64))],fun z=>some (aD1 z.1 z.2.1,())⟩
def containsEntryS:FSpec:=⟨[.val (bM),.val ((.clo 174 (.pair (.clo 172 .unit) .unit)))],[.val (.bool)],fun z=>some (aAw z.1 z.2.1,())⟩
def indexNumsS:FSpec:=⟨[.val (bA),.val ((.clo 201 (.pair (.int .i64) .unit)))],[.val ((.int .i64))],fun z=>some (aDX z.1 z.2.1,())⟩
def containsNumsS:FSpec:=⟨[.val (bA),.val ((.clo 201 (.pair (.int .i64) .unit)))],[.val (.bool)],fun z=>some (aB3 z.1 z.2.1,())⟩
def newS:FSpec:=⟨[.val (eO)],[.box 204 ((.pair eO (.pair .bool .unit)))],fun z=>some (zK z.1,())⟩
def nextS:FSpec:=⟨[.box 204 ((.pair eO (.pair .bool .unit)))],[.val ((.int .u64)),.val (.bool)],fun z=>next z.1⟩
def getS:FSpec:=⟨[.box 204 ((.pair eO (.pair .bool .unit))),.val ((.int .i64))],[.val ((.int .i64))],fun z=>bS z.1 z.2.1⟩
def glongS:FSpec:=⟨[.box 204 ((.pair eO (.pair .bool .unit)))],[.val ((.int .i32))],fun z=>kQ z.1⟩
def finS:FSpec:=⟨[.box 204 ((.pair eO (.pair .bool .unit)))],[.val (.bool)],fun z=>aAp z.1⟩
def rbytesS:FSpec:=⟨[.val ((.int .i64))],[.tip (eO)],fun z=>dN z.1⟩
def rsignedS:FSpec:=⟨[.val ((.int .i32))],[.tip (eO)],fun z=>yK z.1⟩
def rinS:FSpec:=⟨[.val (bA),.val ((.int .i64))],[.val (.bool)],fun z=>rin z.1 z.2.1⟩
def rargsS:FSpec:=⟨[.val ((.int .i64))],[.val ((.int .i64))],fun z=>some (mF z.1,())⟩
def iargsS:FSpec:=⟨[.val ((.int .i64))],[.val ((.int .i64))],fun z=>some (bD z.1,())⟩
def withinS:FSpec:=⟨[.val ((.int .i64)),.val ((.int .i64)),.val ((.int .i64))],[.val (.bool)],fun z=>some (lA z.1 z.2.1 z.2.2.1,())⟩
def igoodS:FSpec:=⟨[.val (lB)],[.val (.bool)],fun z=>some (dV z.1,())⟩
def igetS:FSpec:=⟨[.box 204 ((.pair eO (.pair .bool .unit)))],[.val (lB)],fun z=>mN z.1⟩
def rinstrS:FSpec:=⟨[.val (lB)],[.val (.bool)],fun z=>some (aBb z.1,())⟩
def clipCS:FSpec:=⟨[.val (iS)],[.val (iS)],fun z=>some (idL z.1,())⟩
def clipMS:FSpec:=⟨[.val (oF)],[.val (oF)],fun z=>some (idL z.1,())⟩
def clipTS:FSpec:=⟨[.val (bM)],[.val (bM)],fun z=>some (idL z.1,())⟩
def clipIS:FSpec:=⟨[.val (bA)],[.val (bA)],fun z=>some (idL z.1,())⟩
def clipXS:FSpec:=⟨[.val (mA)],[.val (mA)],fun z=>some (idL z.1,())⟩
def clipJS:FSpec:=⟨[.val (iZ)],[.val (iZ)],fun z=>some (idL z.1,())⟩
def cloneTS:FSpec:=⟨[.val (bM)],[.val (bM)],fun z=>xC z.1⟩
def cloneJS:FSpec:=⟨[.val (iZ)],[.val (iZ)],fun z=>aEC z.1⟩
def cloneIS:FSpec:=⟨[.val (bA)],[.val (bA)],fun z=>aED z.1⟩
def cloneXS:FSpec:=⟨[.val (mA)],[.val (mA)],fun z=>aEB z.1⟩
def anTS:FSpec:=⟨[.val (bM)],[.val (bM)],fun z=>xI z.1⟩
def anJS:FSpec:=⟨[.val (iZ)],[.val (iZ)],fun z=>aEV z.1⟩
def anIS:FSpec:=⟨[.val (bA)],[.val (bA)],fun z=>aAE z.1⟩
def anXS:FSpec:=⟨[.val (mA)],[.val (mA)],fun z=>aET z.1⟩
def eqTS:FSpec:=⟨[.val (bM),.val (bM)],[.val (.bool)],fun z=>some (eqL z.1 z.2.1,())⟩
def iwithinS:FSpec:=⟨[.val ((.int .i64)),.val ((.int .i64))],[.val (.bool)],fun z=>some (cY z.1 z.2.1,())⟩
def itypS:FSpec:=⟨[.val (dD)],[.val (.bool)],fun z=>some (ityp z.1,())⟩
def ityp1S:FSpec:=⟨[.val (dD)],[.val (.bool)],fun z=>some (aAa z.1,())⟩
def itypesS:FSpec:=⟨[.val (bM),.val ((.int .i64))],[.val (.bool)],fun z=>some (dH z.1 z.2.1,())⟩
def inum1S:FSpec:=⟨[.val ((.int .i64)),.cap ((.int .i64))],[.val (.bool)],fun z=>some (wO z.1 z.2.1,())⟩
def inumsS:FSpec:=⟨[.val (bA),.val ((.int .i64)),.val ((.int .i64))],[.val (.bool)],fun z=>some (eG z.1 z.2.1 z.2.2.1,())⟩
def imethodS:FSpec:=⟨[.val (kH)],[.val (.bool)],fun z=>some (imethod z.1,())⟩
def iclassS:FSpec:=⟨[.val (aCv)],[.val (.bool)],fun z=>some (iclass z.1,())⟩
def ifits1S:FSpec:=⟨[.val (aCv)],[.val (.bool)],fun z=>some (aAg z.1,())⟩
def ifits2S:FSpec:=⟨[.val (kH)],[.val (.bool)],fun z=>some (aAf z.1,())⟩
def ifitsS:FSpec:=⟨[.val (bO)],[.val (.bool)],fun z=>some (bI z.1,())⟩
def getTypeS:FSpec:=⟨[.box 204 ((.pair eO (.pair .bool .unit)))],[.val (dD)],fun z=>lO z.1⟩
def getTypesS:FSpec:=⟨[.box 204 ((.pair eO (.pair .bool .unit))),.val ((.int .i64))],[.val (bM)],fun z=>hZ z.1 z.2.1⟩
def getNumsS:FSpec:=⟨[.box 204 ((.pair eO (.pair .bool .unit))),.val ((.int .i64)),.val ((.int .i64))],[.val (bA)],fun z=>iJ z.1 z.2.1 z.2.2.1⟩
def getMethodS:FSpec:=⟨[.box 204 ((.pair eO (.pair .bool .unit)))],[.val (kH)],fun z=>lP z.1⟩
def idecodeS:FSpec:=⟨[.val (eO)],[.val (bO),.val ((.int .i64))],fun z=>pA z.1⟩
def icopyS:FSpec:=⟨[.val (bO)],[.val (bO)],fun z=>aBO z.1⟩
def kgoodS:FSpec:=⟨[.val (dD),.val ((.int .i64))],[.val (.bool)],fun z=>some (fE z.1 z.2.1,())⟩
def kisrefS:FSpec:=⟨[.val (dD)],[.val (.bool)],fun z=>some (jY z.1,())⟩
def kupS:FSpec:=⟨[.val (iS),.val ((.int .i64))],[.val ((.int .i64))],fun z=>some (kup z.1 z.2.1,())⟩
def kbelowS:FSpec:=⟨[.val (iS),.val ((.int .i64)),.val ((.int .i64))],[.val (.bool)],fun z=>some (dL z.1 z.2.1 z.2.2.1,())⟩
def ksubS:FSpec:=⟨[.val (iS),.val (dD),.val (dD)],[.val (.bool)],fun z=>some (cN z.1 z.2.1 z.2.2.1,())⟩
def raboveS:FSpec:=⟨[.val (iS),.val ((.int .i64))],[.val (bA)],fun z=>lF z.1 z.2.1⟩
def risrefS:FSpec:=⟨[.val (dD)],[.val (.bool)],fun z=>some (vT z.1,())⟩
def rgoodS:FSpec:=⟨[.val (dD),.val ((.int .i64))],[.val (.bool)],fun z=>some (vV z.1 z.2.1,())⟩
def rsubS:FSpec:=⟨[.val (iS),.val (dD),.val (dD)],[.val (.bool)],fun z=>oL z.1 z.2.1 z.2.2.1⟩
def rtypesS:FSpec:=⟨[.val (bM),.val (bM)],[.val (.bool)],fun z=>some (kN z.1 z.2.1,())⟩
def rintsS:FSpec:=⟨[.val (bA),.val (bA)],[.val (.bool)],fun z=>some (tS z.1 z.2.1,())⟩
def r5inS:FSpec:=⟨[.val ((.int .i64)),.val ((.int .i64)),.val ((.int .i64))],[.val (.bool)],fun z=>some (jS z.1 z.2.1 z.2.2.1,())⟩
def r5listS:FSpec:=⟨[.val (bA),.val ((.int .i64)),.val ((.int .i64))],[.val (.bool)],fun z=>some (rT z.1 z.2.1 z.2.2.1,())⟩
def r5typS:FSpec:=⟨[.val (dD)],[.val (.bool)],fun z=>some (tT z.1,())⟩
def r5typesS:FSpec:=⟨[.val (bM),.val ((.int .i64))],[.val (.bool)],fun z=>some (oM z.1 z.2.1,())⟩
def r5fitsS:FSpec:=⟨[.val (bO)],[.val (.bool)],fun z=>some (jT z.1,())⟩
def r5numsS:FSpec:=⟨[.val (bA)],[.tip (eO)],fun z=>oN z.1⟩
def r5oneS:FSpec:=⟨[.val (dD)],[.tip (eO)],fun z=>tV z.1⟩
def r5severalS:FSpec:=⟨[.val (bM)],[.tip (eO)],fun z=>mG z.1⟩
def r5sameS:FSpec:=⟨[.val (bO),.val (bO)],[.val (.bool)],fun z=>some (pY z.1 z.2.1,())⟩
def r5fieldsS:FSpec:=⟨[.val (bO),.val ((.int .i64))],[.tip (bM)],fun z=>kO z.1 z.2.1⟩
def r5goodS:FSpec:=⟨[.val (bO),.val (bM)],[.val (.bool)],fun z=>some (pZ z.1 z.2.1,())⟩
def r5classS:FSpec:=⟨[.val (bO),.val ((.int .i64))],[.val (.bool)],fun z=>yZ z.1 z.2.1⟩
def r5namedS:FSpec:=⟨[.val (bO),.val (kH),.val (lB)],[.val (.bool)],fun z=>yX z.1 z.2.1 z.2.2.1⟩
def r5methodS:FSpec:=⟨[.val (bO),.val (kH)],[.val (.bool)],fun z=>yY z.1 z.2.1⟩
def r5saneS:FSpec:=⟨[.val (bO)],[.val ((.int .i64))],fun z=>some (tU z.1,())⟩
def sinS:FSpec:=⟨[.val ((.int .i64)),.val ((.int .i64))],[.val (.bool)],fun z=>some (sin z.1 z.2.1,())⟩
def sallS:FSpec:=⟨[.val (bO),.val (aFb)],[.val (.bool)],fun z=>some (kM z.1 z.2.1,())⟩
def saboveS:FSpec:=⟨[.val (bO),.val ((.int .i64))],[.val ((.int .i64)),.val (bA)],fun z=>rN z.1 z.2.1⟩
def sfitsS:FSpec:=⟨[.val (bO),.val ((.int .i64)),.val ((.int .i64))],[.val (.bool)],fun z=>yF z.1 z.2.1 z.2.2.1⟩
def salikeS:FSpec:=⟨[.val (kH),.val (kH)],[.val (.bool)],fun z=>some (aA7 z.1 z.2.1,())⟩
def sclassS:FSpec:=⟨[.val (bO),.val ((.int .i64))],[.val (.bool)],fun z=>tM z.1 z.2.1⟩
def sfieldsS:FSpec:=⟨[.val ((.int .i64)),.cap (bO)],[.val ((.int .i64))],fun z=>vP z.1 z.2.1⟩
def sinstrS:FSpec:=⟨[.val (bO),.val (kH),.val (lB),.val ((.clo 170 (.pair bO .unit)))],[.val (.bool)],fun z=>yE z.1 z.2.1 z.2.2.1 z.2.2.2.1⟩
def smethodS:FSpec:=⟨[.val (bO),.val (kH)],[.val (.bool)],fun z=>yD z.1 z.2.1⟩
def sentry1S:FSpec:=⟨[.val (dD)],[.val (.bool)],fun z=>some (sentry1 z.1,())⟩
def sentry2S:FSpec:=⟨[.val (dD),.cap ((.clo 172 .unit))],[.val (.bool)],fun z=>some (yG z.1 z.2.1,())⟩
def sentryS:FSpec:=⟨[.val (bO),.val ((.int .i64))],[.val (.bool)],fun z=>aCL z.1 z.2.1⟩
def scheckS:FSpec:=⟨[.val (bO)],[.val ((.int .i64))],fun z=>some (gA z.1,())⟩
def sortIS:FSpec:=⟨[.own 3 ((.int .i64))],[],fun z=>some (aA0 z.1)⟩
def compactIS:FSpec:=⟨[.take 3 ((.int .i64))],[.own 3 ((.int .i64))],fun z=>some (eJ z.1,())⟩
def cbelowS:FSpec:=⟨[.val (bO),.val ((.int .i64))],[.val (bA)],fun z=>aAy z.1 z.2.1⟩
def cslotS:FSpec:=⟨[.val (bO),.val ((.int .i64)),.val ((.int .i64))],[.val ((.int .i64)),.val (.bool)],fun z=>some (eS z.1 z.2.1 z.2.2.1)⟩
def ctargetsS:FSpec:=⟨[.val (bO),.val (lB)],[.tip (bA)],fun z=>sP z.1 z.2.1⟩
def cofS:FSpec:=⟨[.val (bO),.val ((.int .i64))],[.val (bA)],fun z=>cof z.1 z.2.1⟩
def r5belowS:FSpec:=⟨[.val (bO),.val ((.int .i64))],[.tip (bA)],fun z=>zA z.1 z.2.1⟩
def r5slotS:FSpec:=⟨[.val (bO),.val ((.int .i64)),.val ((.int .i64))],[.val ((.int .i64)),.val (.bool)],fun z=>some (aBp z.1 z.2.1 z.2.2.1)⟩
def r8targetsS:FSpec:=⟨[.val (bO),.val (lB)],[.tip (bA)],fun z=>rQ z.1 z.2.1⟩
def r8callsS:FSpec:=⟨[.val (bO),.val ((.int .i64)),.val ((.int .i64))],[.val (.bool)],fun z=>yU z.1 z.2.1 z.2.2.1⟩
def r8edgesS:FSpec:=⟨[.val (bO)],[.val (lC)],fun z=>vX z.1⟩
def r8waysS:FSpec:=⟨[.val (lC)],[.val (aID)],fun z=>yP z.1⟩
def fenterS:FSpec:=⟨[.box 155 ((.pair lC (.pair (.osl 3 (.int .i64)) (.pair (.osl 3 (.int .i64)) (.pair (.osl 4 .bool) (.pair (.osl 3 (.int .i64)) (.pair (.int .i64) (.pair (.osl 26 bA) .unit)))))))),.val ((.int .i64))],[],fun z=>aAr z.1 z.2.1⟩
def fleaveS:FSpec:=⟨[.box 155 ((.pair lC (.pair (.osl 3 (.int .i64)) (.pair (.osl 3 (.int .i64)) (.pair (.osl 4 .bool) (.pair (.osl 3 (.int .i64)) (.pair (.int .i64) (.pair (.osl 26 bA) .unit)))))))),.val ((.int .i64))],[],fun z=>aAo z.1 z.2.1⟩
def ffromS:FSpec:=⟨[.box 155 ((.pair lC (.pair (.osl 3 (.int .i64)) (.pair (.osl 3 (.int .i64)) (.pair (.osl 4 .bool) (.pair (.osl 3 (.int .i64)) (.pair (.int .i64) (.pair (.osl 26 bA) .unit)))))))),.val ((.int .i64))],[],fun z=>aAq z.1 z.2.1⟩
def clipIOS:FSpec:=⟨[.take 3 ((.int .i64))],[.own 3 ((.int .i64))],fun z=>some (idL z.1,())⟩
def clipIIOS:FSpec:=⟨[.take 26 (bA)],[.own 26 (bA)],fun z=>some (idL z.1,())⟩
def ringsS:FSpec:=⟨[.val (lC)],[.val (lC)],fun z=>nK z.1⟩
def r5localS:FSpec:=⟨[.val (kH),.val ((.int .i64))],[.val (dD)],fun z=>aBr z.1 z.2.1⟩
def rjoinS:FSpec:=⟨[.val (iS),.val (dD),.val (dD)],[.val (dD)],fun z=>yM z.1 z.2.1 z.2.2.1⟩
def r8givesS:FSpec:=⟨[.val (kH)],[.val (bM)],fun z=>yS z.1⟩
def r8ruleS:FSpec:=⟨[.val (bO),.val ((.int .i64)),.val (lB)],[.val (bM),.val (bM)],fun z=>aBk z.1 z.2.1 z.2.2.1⟩
def r8stepS:FSpec:=⟨[.val (bO),.val ((.int .i64)),.val ((.int .i64)),.val (bM)],[.val (bM),.val (bA),.val ((.int .i64))],fun z=>rR z.1 z.2.1 z.2.2.1 z.2.2.2.1⟩
def r8shapesS:FSpec:=⟨[.val (bO),.val ((.int .i64))],[.val (aCw),.val (.bool)],fun z=>yR z.1 z.2.1⟩
def r8allS:FSpec:=⟨[.val (bO)],[.val (fZ),.val ((.int .i64))],fun z=>pX z.1⟩
def r8frameS:FSpec:=⟨[.val (bO),.val (fZ),.val ((.int .i64))],[.val ((.int .i64))],fun z=>yT z.1 z.2.1 z.2.2.1⟩
def tdeepS:FSpec:=⟨[.val (fZ),.val ((.int .i64))],[.val ((.int .i64))],fun z=>xZ z.1 z.2.1⟩
def dframeS:FSpec:=⟨[.val (bO),.val (fZ),.val ((.int .i64))],[.val ((.int .i64))],fun z=>aEs z.1 z.2.1 z.2.2.1⟩
def growTS:FSpec:=⟨[.nilp true,.val ((.int .i64))],[.own 39 (dD)],fun z=>aAi z.1 z.2.1⟩
def concatTS:FSpec:=⟨[.val (aFb)],[.val (bM)],fun z=>qT z.1⟩
def indexIS:FSpec:=⟨[.val (bA),.val ((.int .i64))],[.val ((.int .i64))],fun z=>some (aD0 z.1 z.2.1,())⟩
def containsIS:FSpec:=⟨[.val (bA),.val ((.int .i64))],[.val (.bool)],fun z=>some (uQ z.1 z.2.1,())⟩
def clipQS:FSpec:=⟨[.val (vG)],[.val (vG)],fun z=>some (idL z.1,())⟩
def clipSSS:FSpec:=⟨[.val (fZ)],[.val (fZ)],fun z=>some (idL z.1,())⟩
def cupS:FSpec:=⟨[.val (bO),.val ((.int .i64))],[.val ((.int .i64))],fun z=>cup z.1 z.2.1⟩
def cfieldsS:FSpec:=⟨[.val (bO),.val ((.int .i64))],[.val (bM)],fun z=>sQ z.1 z.2.1⟩
def csizeS:FSpec:=⟨[.val (bO),.val ((.int .i64))],[.val ((.int .i64))],fun z=>aAv z.1 z.2.1⟩
def clocalS:FSpec:=⟨[.val (kH),.val ((.int .i64))],[.val (dD)],fun z=>xD z.1 z.2.1⟩
def kjoinS:FSpec:=⟨[.val (iS),.val (dD),.val (dD)],[.val (dD)],fun z=>wM z.1 z.2.1 z.2.2.1⟩
def numIsS:FSpec:=⟨[.val ((.int .i64))],[.val (.bool)],fun z=>some (oR z.1,())⟩
def fnumberS:FSpec:=⟨[],[.val (dD)],fun _=>some (kT,())⟩
def farrayS:FSpec:=⟨[],[.val (dD)],fun _=>some (aAs,())⟩
def fobjectS:FSpec:=⟨[.val ((.int .i64))],[.val (dD)],fun z=>some (pF z.1,())⟩
def fplain1S:FSpec:=⟨[.val (bM)],[.val (bM)],fun z=>some (iM z.1,())⟩
def fof1S:FSpec:=⟨[.val (dD)],[.val (bM)],fun z=>some (gY z.1,())⟩
def fcalledS:FSpec:=⟨[.val (kH),.val (bM)],[.val ((.pair bM (.pair bM .unit)))],fun z=>wV z.1 z.2.1⟩
def fplainS:FSpec:=⟨[.val ((.int .i64))],[.val ((.pair bM (.pair bM .unit))),.val (.bool)],fun z=>some (fO z.1)⟩
def fofS:FSpec:=⟨[.val (bO),.val (lB),.val ((.int .i64))],[.val ((.pair bM (.pair bM .unit)))],fun z=>fof z.1 z.2.1 z.2.2.1⟩
def ffitsS:FSpec:=⟨[.val (bO),.val ((.int .i64)),.val (dD),.val (dD)],[.val (.bool)],fun z=>some (eX z.1 z.2.1 z.2.2.1 z.2.2.2.1,())⟩
def fnextsS:FSpec:=⟨[.val (lB),.val ((.int .i64))],[.val (bA)],fun z=>some (eV z.1 z.2.1,())⟩
def fstepS:FSpec:=⟨[.val (bO),.val ((.int .i64)),.val ((.int .i64)),.val (bM)],[.val (bM),.val (bA),.val ((.int .i64))],fun z=>sH z.1 z.2.1 z.2.2.1 z.2.2.2.1⟩
def tmergeS:FSpec:=⟨[.val (bO),.val (oE),.val (bM)],[.val (oE),.val (.bool),.val (.bool)],fun z=>xX z.1 z.2.1 z.2.2.1⟩
def toneS:FSpec:=⟨[.val (bO),.val ((.int .i64)),.val ((.int .i64)),.own 52 (oE),.own 4 (.bool)],[.val (.bool)],fun z=>nD z.1 z.2.1 z.2.2.1 z.2.2.2.1 z.2.2.2.2.1⟩
def tmethodS:FSpec:=⟨[.val (bO),.val ((.int .i64))],[.val (aCw),.val ((.int .i64)),.val ((.int .i64))],fun z=>nE z.1 z.2.1⟩
def tcheckS:FSpec:=⟨[.val (bO)],[.val (fZ),.val ((.int .i64)),.val ((.int .i64)),.val ((.int .i64))],fun z=>nF z.1⟩
def cyc1S:FSpec:=⟨[.val ((.int .i64)),.cap (bA)],[.val (.bool)],fun z=>some (xB z.1 z.2.1,())⟩
def indexCycS:FSpec:=⟨[.val (bA),.val ((.clo 112 (.pair bA .unit)))],[.val ((.int .i64))],fun z=>some (aD2 z.1 z.2.1,())⟩
def containsCycS:FSpec:=⟨[.val (bA),.val ((.clo 112 (.pair bA .unit)))],[.val (.bool)],fun z=>some (aB6 z.1 z.2.1,())⟩
def cyclicS:FSpec:=⟨[.val (lC),.val (bA)],[.val (.bool)],fun z=>aAu z.1 z.2.1⟩
def dboundS:FSpec:=⟨[.val (bO),.val (fZ)],[.val (bA),.val ((.int .i64))],fun z=>sO z.1 z.2.1⟩
def mul64S:FSpec:=⟨[.val ((.int .u64)),.val ((.int .u64))],[.val ((.int .u64)),.val ((.int .u64))],fun z=>zL z.1 z.2.1⟩
def lofS:FSpec:=⟨[.val ((.int .i64))],[.val ((.pair (.int .i64) (.pair .bool .unit)))],fun z=>some (lof z.1,())⟩
def lsizeS:FSpec:=⟨[.val ((.int .i64))],[.val ((.int .u64))],fun z=>some (eR z.1,())⟩
def lplusS:FSpec:=⟨[.val ((.pair (.int .i64) (.pair .bool .unit))),.val ((.pair (.int .i64) (.pair .bool .unit)))],[.val ((.pair (.int .i64) (.pair .bool .unit)))],fun z=>aBF z.1 z.2.1⟩
def ltimesS:FSpec:=⟨[.val ((.pair (.int .i64) (.pair .bool .unit))),.val ((.pair (.int .i64) (.pair .bool .unit)))],[.val ((.pair (.int .i64) (.pair .bool .unit)))],fun z=>aBE z.1 z.2.1⟩
def lholdsS:FSpec:=⟨[.val (aCu),.val (bA)],[.val (.bool),.val ((.int .i64))],fun z=>zY z.1 z.2.1⟩
def pshapeS:FSpec:=⟨[.val (fZ),.val ((.int .i64)),.val ((.int .i64))],[.val (oE)],fun z=>zC z.1 z.2.1 z.2.2.1⟩
def pcostS:FSpec:=⟨[.val (bO),.val (lB)],[.val ((.int .i64))],fun z=>zG z.1 z.2.1⟩
def prowS:FSpec:=⟨[.val ((.int .i64)),.val ((.int .i64)),.val ((.int .i64)),.val ((.int .i64))],[.val (aCu)],fun z=>tY z.1 z.2.1 z.2.2.1 z.2.2.2.1⟩
def prulesS:FSpec:=⟨[.val (bO),.val (fZ),.val ((.int .i64))],[.val (vG)],fun z=>zD z.1 z.2.1 z.2.2.1⟩
def pnegS:FSpec:=⟨[.val ((.int .i64))],[.val (.bool)],fun z=>some (aLc z.1,())⟩
def indexNegS:FSpec:=⟨[.val (bA),.val ((.clo 42 .unit))],[.val ((.int .i64))],fun z=>some (aDY z.1 z.2.1,())⟩
def containsNegS:FSpec:=⟨[.val (bA),.val ((.clo 42 .unit))],[.val (.bool)],fun z=>some (aB4 z.1 z.2.1,())⟩
def pcheckS:FSpec:=⟨[.val (bO),.val (fZ)],[.val ((.int .i64)),.val ((.int .i64))],fun z=>tZ z.1 z.2.1⟩
def aneedsS:FSpec:=⟨[.val (bO),.val (fZ)],[.val ((.int .i64)),.val ((.int .i64)),.val ((.int .i64))],fun z=>pH z.1 z.2.1⟩
def acheckS:FSpec:=⟨[.val (bO)],[.val (fZ),.val ((.int .i64))],fun z=>nX z.1⟩
def abytesS:FSpec:=⟨[.val (eO)],[.val (bO),.val (fZ),.val ((.int .i64))],fun z=>nY z.1⟩
def r14costS:FSpec:=⟨[.val (bO),.val (lB)],[.val ((.int .i64))],fun z=>vZ z.1 z.2.1⟩
def r8sameS:FSpec:=⟨[.val (fZ),.val (fZ)],[.val (.bool)],fun z=>pW z.1 z.2.1⟩
def awake16S:FSpec:=⟨[],[.val (.bool)],fun _=>awake16N⟩
def small16S:FSpec:=⟨[.val (bO)],[.val (.bool)],fun z=>some (aA2 z.1,())⟩
def r8boundS:FSpec:=⟨[.val (bO),.val (fZ)],[.val (bA),.val (.bool)],fun z=>rS z.1 z.2.1⟩
def r14potsS:FSpec:=⟨[.val (bO),.val (fZ)],[.val ((.int .i64))],fun z=>tW z.1 z.2.1⟩
def r14needsS:FSpec:=⟨[.val (bO),.val (fZ)],[.val ((.int .i64)),.val ((.int .i64)),.val (.bool)],fun z=>tX z.1 z.2.1⟩
def r14admitS:FSpec:=⟨[.val (bO)],[.val (fZ),.val ((.int .i64))],fun z=>oO z.1⟩
def r5encodeOS:FSpec:=⟨[.val (bO)],[.own 5 ((.int .u8))],fun z=>gU z.1⟩
def aEW:List Ty:=[eO,bO,(.int .u16)]
noncomputable def admitBytesS:FSpec:=⟨[.val (eO),.val (bO),.val ((.int .u16))],[.val (.bool)],fun z=>@ite _ (aAG Tryz.prog aEW z) (Classical.propDecidable _) (some (true,())) none⟩
theorem aJi:FOk Tryz.prog 106 sortIS:=sort_fok 3 ⟨_,Tryz.func106,by kernel_rfl,by kernel_rfl⟩ Tryz.slices_Sort_int Tryz.slices_Sort_int_none
theorem aZk:FOk Tryz.prog 108 compactIS:=compact_fok 3 ⟨_,Tryz.func108,by kernel_rfl,by kernel_rfl⟩ Tryz.slices_Compact_int Tryz.slices_Compact_int_empty
theorem aDT:FOk Tryz.prog 164 iwithinS:=fk (cx [] [] 12 []) A0 trivial Tryz.func164 fun z r _ h=>⟨0,.trans (by kernel_rfl) ((aVI z.1 z.2.1).trans h)⟩
theorem aMy:FOk Tryz.prog 197 itypS:=fk (cx [(164,iwithinS)] [] 21 [1]) A0 ⟨aDT,trivial⟩ Tryz.func197 fun z r _ h=>⟨0,.trans (by kernel_rfl) ((aVL z.1).trans h)⟩
theorem aVN:FOk Tryz.prog 196 ityp1S:=fk (cx [(197,itypS)] [] 6 [1]) A0 ⟨aMy,trivial⟩ Tryz.func196 fun z r _ h=>⟨0,.trans (by kernel_rfl) ((aVM z.1).trans h)⟩
theorem aV8:FOk Tryz.prog 203 indexTypesS:=fk (cx [(196,ityp1S)] [] 19 []) ⟨[(2,(5,[.val 8 ((.int .i64)) false]))],[],[],[]⟩ ⟨aVN,trivial⟩ Tryz.func203 fun z r hl h=>(aV7 z.1 z.2.1 hl).elim fun k hk=>⟨k,.trans (by kernel_rfl) (hk.trans h)⟩
theorem aYV:FOk Tryz.prog 173 containsTypesS:=fk (cx [(198000203,indexTypesS)] [] 9 []) A0 ⟨aV8,trivial⟩ Tryz.func173 fun z r hl h=>⟨0,.trans (by kernel_rfl) ((aYU z.1 z.2.1 hl).trans h)⟩
theorem aG4:FOk Tryz.prog 156 itypesS:=fk (cx [(198000173,containsTypesS)] [] 14 []) A0 ⟨aYV,trivial⟩ Tryz.func156 fun z r _ h=>⟨0,.trans (by kernel_rfl) ((aVK z.1 z.2.1).trans h)⟩
theorem aVY:FOk Tryz.prog 201 inum1S:=fk (cx [(164,iwithinS)] [] 8 []) A0 ⟨aDT,trivial⟩ Tryz.func201 fun z r _ h=>⟨0,.trans (by kernel_rfl) ((aVX z.1 z.2.1).trans h)⟩
theorem aWc:FOk Tryz.prog 85 indexNumsS:=fk (cx [(201,inum1S)] [] 19 []) ⟨[(2,(5,[.val 8 ((.int .i64)) false]))],[],[],[]⟩ ⟨aVY,trivial⟩ Tryz.func85 fun z r hl h=>(aWb z.1 z.2.1 hl).elim fun k hk=>⟨k,.trans (by kernel_rfl) (hk.trans h)⟩
theorem aYY:FOk Tryz.prog 41 containsNumsS:=fk (cx [(203000085,indexNumsS)] [] 9 []) A0 ⟨aWc,trivial⟩ Tryz.func41 fun z r hl h=>⟨0,.trans (by kernel_rfl) ((aYX z.1 z.2.1 hl).trans h)⟩
theorem aG7:FOk Tryz.prog 163 inumsS:=fk (cx [(203000041,containsNumsS)] [] 17 [5]) A0 ⟨aYY,trivial⟩ Tryz.func163 fun z r _ h=>⟨0,.trans (by kernel_rfl) ((aVW z.1 z.2.1 z.2.2.1).trans h)⟩
theorem aW0:FOk Tryz.prog 159 iclassS:=fk (cx [(156,itypesS),(163,inumsS)] [] 21 [1]) A0 ⟨aG4,aG7,trivial⟩ Tryz.func159 fun z r _ h=>⟨0,.trans (by kernel_rfl) ((aWZ z.1).trans h)⟩
theorem aWQ:FOk Tryz.prog 158 ifits1S:=fk (cx [(159,iclassS)] [] 6 [1]) A0 ⟨aW0,trivial⟩ Tryz.func158 fun z r _ h=>⟨0,.trans (by kernel_rfl) ((aWP z.1).trans h)⟩
theorem aWA:FOk Tryz.prog 198 indexClassS:=fk (cx [(158,ifits1S)] [] 19 []) ⟨[(2,(5,[.val 8 ((.int .i64)) false]))],[],[],[]⟩ ⟨aWQ,trivial⟩ Tryz.func198 fun z r hl h=>(aWz z.1 z.2.1 hl).elim fun k hk=>⟨k,.trans (by kernel_rfl) (hk.trans h)⟩
theorem aZf:FOk Tryz.prog 157 containsClassS:=fk (cx [(160000198,indexClassS)] [] 9 []) A0 ⟨aWA,trivial⟩ Tryz.func157 fun z r hl h=>⟨0,.trans (by kernel_rfl) ((aZe z.1 z.2.1 hl).trans h)⟩
theorem aMQ:FOk Tryz.prog 205 iargsS:=fk (cx [] [] 26 []) ⟨[],[(2,(11,[.val 4 (.bool) false]))],[],[]⟩ trivial Tryz.func205 fun z r _ h=>⟨0,.trans (by kernel_rfl) ((aW1 z.1).trans h)⟩
theorem aPA:FOk Tryz.prog 212 withinS:=fk (cx [] [] 18 []) A0 trivial Tryz.func212 fun z r _ h=>⟨0,.trans (by kernel_rfl) ((aPz z.1 z.2.1 z.2.2.1).trans h)⟩
theorem aWH:FOk Tryz.prog 200 igoodS:=fk (cx [(205,iargsS),(212,withinS)] [] 21 [1]) A0 ⟨aMQ,aPA,trivial⟩ Tryz.func200 fun z r _ h=>⟨0,.trans (by kernel_rfl) ((aWG z.1).trans h)⟩
theorem aWE:FOk Tryz.prog 162 imethodS:=fk (cx [(156,itypesS),(163,inumsS),(164,iwithinS),(197,itypS),(200,igoodS)] [] 51 [1,4]) ⟨[(4,(5,[.val 30 ((.int .i64)) false]))],[],[],[]⟩ ⟨aG4,aG7,aDT,aMy,aWH,trivial⟩ Tryz.func162 fun z r _ h=>(aWD z.1).elim fun k hk=>⟨k,.trans (by kernel_rfl) (hk.trans h)⟩
theorem aWN:FOk Tryz.prog 161 ifits2S:=fk (cx [(162,imethodS)] [] 6 [1]) A0 ⟨aWE,trivial⟩ Tryz.func161 fun z r _ h=>⟨0,.trans (by kernel_rfl) ((aWM z.1).trans h)⟩
theorem aWk:FOk Tryz.prog 199 indexMethodS:=fk (cx [(161,ifits2S)] [] 19 []) ⟨[(2,(5,[.val 8 ((.int .i64)) false]))],[],[],[]⟩ ⟨aWN,trivial⟩ Tryz.func199 fun z r hl h=>(aWj z.1 z.2.1 hl).elim fun k hk=>⟨k,.trans (by kernel_rfl) (hk.trans h)⟩
theorem aY4:FOk Tryz.prog 160 containsMethodS:=fk (cx [(163000199,indexMethodS)] [] 9 []) A0 ⟨aWk,trivial⟩ Tryz.func160 fun z r hl h=>⟨0,.trans (by kernel_rfl) ((aY3 z.1 z.2.1 hl).trans h)⟩
theorem aJB:FOk Tryz.prog 172 sentry1S:=fk (cx [] [] 6 [1]) A0 trivial Tryz.func172 fun z r _ h=>⟨0,.trans (by kernel_rfl) ((aRz z.1).trans h)⟩
theorem aRx:FOk Tryz.prog 174 sentry2S:=fk (cx [(172,sentry1S)] [] 8 [2]) A0 ⟨aJB,trivial⟩ Tryz.func174 fun z r _ h=>⟨0,.trans (by kernel_rfl) ((aRw z.1 z.2.1).trans h)⟩
theorem aWs:FOk Tryz.prog 203 indexEntryS:=fk (cx [(174,sentry2S)] [] 19 []) ⟨[(2,(5,[.val 8 ((.int .i64)) false]))],[],[],[]⟩ ⟨aRx,trivial⟩ Tryz.func203 fun z r hl h=>(aWr z.1 z.2.1 hl).elim fun k hk=>⟨k,.trans (by kernel_rfl) (hk.trans h)⟩
theorem aY9:FOk Tryz.prog 173 containsEntryS:=fk (cx [(176000203,indexEntryS)] [] 9 []) A0 ⟨aWs,trivial⟩ Tryz.func173 fun z r hl h=>⟨0,.trans (by kernel_rfl) ((aY8 z.1 z.2.1 hl).trans h)⟩
theorem aUE:FOk Tryz.prog 122 newS:=fk (cx [] [] 6 [5]) A0 trivial Tryz.func122 fun z r _ h=>⟨0,.trans (by kernel_rfl) h⟩
theorem aUD:FOk Tryz.prog 177 nextS:=fk (cx [] [] 47 [1000000]) ⟨[(3,(8,[.val 4 ((.int .u64)) false,.val 12 ((.int .i64)) false]))],[],[],[]⟩ trivial Tryz.func177 fun z r _ h=>(aUy z.1 r h).elim fun k hk=>⟨k,.trans (by kernel_rfl) hk⟩
theorem wQ:FOk Tryz.prog 123 getS:=fk {cx [(177,nextS)] [] 37 [1000000] with ptrs:=[163] } A0 ⟨aUD,trivial⟩ Tryz.func123 fun z r _ h=>⟨0,.trans (by kernel_rfl) h⟩
theorem aXc:FOk Tryz.prog 126 glongS:=fk (cx [(123,getS)] [] 15 [1000000]) A0 ⟨wQ,trivial⟩ Tryz.func126 fun z r _ h=>⟨0,.trans (by kernel_rfl) h⟩
theorem aXV:FOk Tryz.prog 128 finS:=fk {cx [] [] 20 [1000000] with ptrs:=[163] } A0 trivial Tryz.func128 fun z r _ h=>⟨0,.trans (by kernel_rfl) h⟩
theorem aBf:FOk Tryz.prog 71 rbytesS:=fk (cx [] [9,18] 23 []) ⟨[(4,(3,[.val 0 ((.int .i64)) false,.val 3 (eO) true]))],[(1,(2,[.val 0 ((.int .i64)) false]))],[],[]⟩ trivial Tryz.func71 fun z r _ h=>(aSE z.1 r h).elim fun k hk=>⟨k,.trans (by kernel_rfl) hk⟩
theorem aR9:FOk Tryz.prog 74 rsignedS:=fk (cx [(71,rbytesS)] [] 14 []) A0 ⟨aBf,trivial⟩ Tryz.func74 fun z r _ h=>⟨0,.trans (by kernel_rfl) h⟩
theorem aBd:FOk Tryz.prog 99 rinS:=fk (cx [] [] 18 []) ⟨[(2,(4,[.val 5 ((.int .i64)) false]))],[],[],[]⟩ trivial Tryz.func99 fun z r _ h=>(aSw z.1 z.2.1 r h).elim fun k hk=>⟨k,.trans (by kernel_rfl) hk⟩
theorem aKl:FOk Tryz.prog 76 rargsS:=fk (cx [(99,rinS)] [] 24 []) A0 ⟨aBd,trivial⟩ Tryz.func76 fun z r _ h=>⟨0,.trans (by kernel_rfl) ((aSF z.1).trans h)⟩
theorem aWK:FOk Tryz.prog 179 igetS:=fk (cx [(123,getS),(205,iargsS)] [] 22 [1000000,2,3]) A0 ⟨wQ,aMQ,trivial⟩ Tryz.func179 fun z r _ h=>⟨0,.trans (by kernel_rfl) h⟩
theorem aSt:FOk Tryz.prog 70 rinstrS:=fk (cx [(76,rargsS)] [] 45 [1]) ⟨[],[(2,(2,[]))],[],[]⟩ ⟨aKl,trivial⟩ Tryz.func70 fun z r _ h=>⟨0,.trans (by kernel_rfl) ((aSs z.1).trans h)⟩
theorem aZR:FOk Tryz.prog 104 clipCS:=fk (cx [] [] 9 []) A0 trivial Tryz.func104 fun z r _ h=>⟨0,.trans (by kernel_rfl) ((aZQ z.1).trans h)⟩
theorem aZI:FOk Tryz.prog 105 clipMS:=fk (cx [] [] 9 []) A0 trivial Tryz.func105 fun z r _ h=>⟨0,.trans (by kernel_rfl) ((aZH z.1).trans h)⟩
theorem aHX:FOk Tryz.prog 145 clipTS:=fk (cx [] [] 9 []) A0 trivial Tryz.func145 fun z r _ h=>⟨0,.trans (by kernel_rfl) ((aZC z.1).trans h)⟩
theorem aEE:FOk Tryz.prog 107 clipIS:=fk (cx [] [] 9 []) A0 trivial Tryz.func107 fun z r _ h=>⟨0,.trans (by kernel_rfl) ((aZL z.1).trans h)⟩
theorem aOs:FOk Tryz.prog 150 clipXS:=fk (cx [] [] 9 []) A0 trivial Tryz.func150 fun z r _ h=>⟨0,.trans (by kernel_rfl) ((aZB z.1).trans h)⟩
theorem aZK:FOk Tryz.prog 147 clipJS:=fk (cx [] [] 9 []) A0 trivial Tryz.func147 fun z r _ h=>⟨0,.trans (by kernel_rfl) ((aZJ z.1).trans h)⟩
def cloneTS0:FSpec:=⟨[.full (bM) false],[.val (bM)],fun _=>some (([]:List Tp),())⟩
def cloneTS1:FSpec:=⟨[.full (bM) true],[.val (bM)],fun z=>xC z.1⟩
theorem aZs:FOk Tryz.prog 146 cloneTS0:=fk (cx [] [] 8 []) A0 trivial Tryz.func146 fun z r _ h=>⟨0,.trans (by kernel_rfl) h⟩
theorem aZr:FOk Tryz.prog 146 cloneTS1:=fk (cx [] [] 8 []) A0 trivial Tryz.func146 fun z r _ h=>⟨0,.trans (by kernel_rfl) h⟩
theorem aOq:FOk Tryz.prog 146 cloneTS:=FOk.split _ aZr aZs (fun _ h=>h)
def cloneJS0:FSpec:=⟨[.full (iZ) false],[.val (iZ)],fun _=>some (([]:List Int),())⟩
def cloneJS1:FSpec:=⟨[.full (iZ) true],[.val (iZ)],fun z=>aEC z.1⟩
theorem aZu:FOk Tryz.prog 148 cloneJS0:=fk (cx [] [] 8 []) A0 trivial Tryz.func148 fun z r _ h=>⟨0,.trans (by kernel_rfl) h⟩
theorem aZt:FOk Tryz.prog 148 cloneJS1:=fk (cx [] [] 8 []) A0 trivial Tryz.func148 fun z r _ h=>⟨0,.trans (by kernel_rfl) h⟩
theorem aZv:FOk Tryz.prog 148 cloneJS:=FOk.split _ aZt aZu (fun _ h=>h)
def cloneIS0:FSpec:=⟨[.full (bA) false],[.val (bA)],fun _=>some (([]:List Int),())⟩
def cloneIS1:FSpec:=⟨[.full (bA) true],[.val (bA)],fun z=>aED z.1⟩
theorem aZx:FOk Tryz.prog 149 cloneIS0:=fk (cx [] [] 8 []) A0 trivial Tryz.func149 fun z r _ h=>⟨0,.trans (by kernel_rfl) h⟩
theorem aZw:FOk Tryz.prog 149 cloneIS1:=fk (cx [] [] 8 []) A0 trivial Tryz.func149 fun z r _ h=>⟨0,.trans (by kernel_rfl) h⟩
theorem aZy:FOk Tryz.prog 149 cloneIS:=FOk.split _ aZw aZx (fun _ h=>h)
def cloneXS0:FSpec:=⟨[.full (mA) false],[.val (mA)],fun _=>some (([]:List Ins),())⟩
def cloneXS1:FSpec:=⟨[.full (mA) true],[.val (mA)],fun z=>aEB z.1⟩
theorem aZo:FOk Tryz.prog 151 cloneXS0:=fk (cx [] [] 8 []) A0 trivial Tryz.func151 fun z r _ h=>⟨0,.trans (by kernel_rfl) h⟩
theorem aZn:FOk Tryz.prog 151 cloneXS1:=fk (cx [] [] 8 []) A0 trivial Tryz.func151 fun z r _ h=>⟨0,.trans (by kernel_rfl) h⟩
theorem aZp:FOk Tryz.prog 151 cloneXS:=FOk.split _ aZn aZo (fun _ h=>h)
theorem bAs:FOk Tryz.prog 100 anTS:=fk (cx [(145,clipTS),(146,cloneTS)] [] 6 []) A0 ⟨aHX,aOq,trivial⟩ Tryz.func100 fun z r _ h=>⟨0,.trans (by kernel_rfl) h⟩
theorem bAu:FOk Tryz.prog 101 anJS:=fk (cx [(147,clipJS),(148,cloneJS)] [] 6 []) A0 ⟨aZK,aZv,trivial⟩ Tryz.func101 fun z r _ h=>⟨0,.trans (by kernel_rfl) h⟩
theorem bAv:FOk Tryz.prog 102 anIS:=fk (cx [(107,clipIS),(149,cloneIS)] [] 6 []) A0 ⟨aEE,aZy,trivial⟩ Tryz.func102 fun z r _ h=>⟨0,.trans (by kernel_rfl) h⟩
theorem bAr:FOk Tryz.prog 103 anXS:=fk (cx [(150,clipXS),(151,cloneXS)] [] 6 []) A0 ⟨aOs,aZp,trivial⟩ Tryz.func103 fun z r _ h=>⟨0,.trans (by kernel_rfl) h⟩
theorem aNH:FOk Tryz.prog 202 eqTS:=fk (cx [] [] 26 []) ⟨[(4,(5,[.val 13 ((.int .i64)) false]))],[],[(6,[[],[0],[],[],[0,1,2,3],[0,1,2,3,4],[0,1,2,3],[0,1,2,3],[]])],[]⟩ trivial Tryz.func202 fun z r hl h=>(aNG z.1 z.2.1 hl).elim fun k hk=>⟨k,.trans (by kernel_rfl) (hk.trans h)⟩
theorem aML:FOk Tryz.prog 113 ifitsS:=fk (cx [(156,itypesS),(163,inumsS),(164,iwithinS),(160000157,containsClassS),(163000160,containsMethodS)] [] 46 [1]) A0 ⟨aG4,aG7,aDT,aZf,aY4,trivial⟩ Tryz.func113 fun z r _ h=>⟨0,.trans (by kernel_rfl) ((aWL z.1).trans h)⟩
theorem aM4:FOk Tryz.prog 178 getTypeS:=fk (cx [(123,getS)] [] 14 [1000000,2,3]) A0 ⟨wQ,trivial⟩ Tryz.func178 fun z r _ h=>⟨0,.trans (by kernel_rfl) (aXh z.1 r h)⟩
theorem aM3:FOk Tryz.prog 124 getTypesS:=fk (cx [(123,getS),(145,clipTS),(178,getTypeS)] [11] 19 [1000000]) ⟨[(3,(3,[.val 5 (bM) true,.val 9 ((.int .i64)) false,.box 1000000 204 [(eO,false),(.bool,false)]]))],[],[],[]⟩ ⟨wQ,aHX,aM4,trivial⟩ Tryz.func124 fun z r _ h=>(aXf z.1 z.2.1 r h).elim fun k hk=>⟨k,.trans (by kernel_rfl) hk⟩
theorem aM6:FOk Tryz.prog 125 getNumsS:=fk (cx [(107,clipIS),(123,getS)] [13] 22 [1000000]) ⟨[(3,(3,[.val 7 (bA) true,.val 11 ((.int .i64)) false,.box 1000000 204 [(eO,false),(.bool,false)]]))],[],[],[]⟩ ⟨aEE,wQ,trivial⟩ Tryz.func125 fun z r _ h=>(aXj z.1 z.2.1 z.2.2.1 r h).elim fun k hk=>⟨k,.trans (by kernel_rfl) hk⟩
theorem aXo:FOk Tryz.prog 127 getMethodS:=fk (cx [(123,getS),(124,getTypesS),(125,getNumsS),(150,clipXS),(178,getTypeS),(179,igetS)] [16] 37 [1000000,2,3]) ⟨[(3,(3,[.val 13 ((.int .i64)) false,.box 1000000 204 [(eO,false),(.bool,false)],.box 3 42 [(bM,false),(bM,false),((.int .i64),false),((.int .i64),false),(mA,true),((.int .i64),false),((.int .i64),false),(bA,true)]]))],[],[(4,[[],[],[0,1],[0,1],[0,1],[],[],[]])],[]⟩ ⟨wQ,aM3,aM6,aOs,aM4,aWK,trivial⟩ Tryz.func127 fun z r _ h=>(aXm z.1 r h).elim fun k hk=>⟨k,.trans (by kernel_rfl) hk⟩
theorem aWY:FOk Tryz.prog 55 icopyS:=fk (cx [(100,anTS),(101,anJS),(102,anIS),(103,anXS),(104,clipCS),(105,clipMS)] [30,68] 83 [1,2,3,5,7]) ⟨[(3,(4,[.val 25 ((.int .i64)) false,.box 3 28 [(iS,true),(bM,false),(iZ,false),(oF,true),(bA,false),((.int .i64),false),((.int .i64),false)]])),(8,(5,[.val 47 ((.int .i64)) false,.box 3 28 [(iS,true),(bM,false),(iZ,false),(oF,true),(bA,false),((.int .i64),false),((.int .i64),false)]]))],[],[(1,[[],[],[],[0,1,2],[0,1,2],[],[0,1,2,3,4,5],[0,1,2,3,4,5],[],[0,1,2,3,4,5,6,7,8],[0,1,2,3,4,5,6,7,8],[0,1,2,3,4,5,6,7,8,9,10],[0,1,2,3,4,5,6,7,8,9,10],[],[0,1,2,3,4,5,6,7,8,9,10,11,12,13],[]]),(5,[[],[],[0,1],[0,1],[0,1,2,3],[0,1,2,3],[0,1,2,3],[0,1,2,3,4,5,6],[0,1,2,3,4,5,6],[0,1,2,3],[0,1],[0,1],[],[],[]]),(10,[[],[],[],[0,1,2],[0,1,2],[],[0,1,2,3,4,5],[0,1,2,3,4,5],[],[0,1,2,3,4,5,6,7,8],[0,1,2,3,4,5,6,7,8],[],[5,8,11],[],[],[],[],[],[],[]]),(13,[[],[],[],[0,1,2],[0,1,2],[],[5],[],[],[]])],[]⟩ ⟨bAs,bAu,bAv,bAr,aZR,aZI,trivial⟩ Tryz.func55 fun z r _ h=>(aWX z.1 r h).elim fun k hk=>⟨k,.trans (by kernel_rfl) hk⟩
theorem aWW:FOk Tryz.prog 77 idecodeS:=fk (cx [(55,icopyS),(113,ifitsS),(122,newS),(123,getS),(124,getTypesS),(125,getNumsS),(126,glongS),(127,getMethodS),(128,finS)] [29,50,62] 89 [2,23,5]) ⟨[(6,(3,[.val 26 ((.int .i64)) false,.box 23 204 [(eO,false),(.bool,false)],.box 5 28 [(iS,true),(bM,true),(iZ,true),(oF,true),(bA,true),((.int .i64),false),((.int .i64),false)]])),(11,(3,[.val 47 ((.int .i64)) false,.box 23 204 [(eO,false),(.bool,false)],.box 5 28 [(iS,true),(bM,false),(iZ,true),(oF,true),(bA,true),((.int .i64),false),((.int .i64),false)]])),(15,(3,[.val 59 ((.int .i64)) false,.box 23 204 [(eO,false),(.bool,false)],.box 5 28 [(iS,true),(bM,false),(iZ,true),(oF,true),(bA,true),((.int .i64),false),((.int .i64),false)]]))],[],[(7,[[],[],[0,1],[0,1],[0,1],[0,1,2,3,4],[0,1,4],[0,1,2,3,4,5,6],[0,1,4],[0,1],[0,1],[],[],[]]),(12,[[],[],[0,1],[0,1],[0,1],[],[],[]]),(16,[[],[],[0,1],[0,1],[0,1],[],[],[]])],[]⟩ ⟨aWY,aML,aUE,wQ,aM3,aM6,aXc,aXo,aXV,trivial⟩ Tryz.func77 fun z r _ h=>(aWU z.1 r h).elim fun k hk=>⟨k,.trans (by kernel_rfl) hk⟩
theorem aVB:FOk Tryz.prog 165 kgoodS:=fk (cx [] [] 24 [2]) ⟨[],[(2,(2,[.val 7 (.bool) false]))],[],[]⟩ trivial Tryz.func165 fun z r _ h=>⟨0,.trans (by kernel_rfl) ((aVA z.1 z.2.1).trans h)⟩
theorem aMq:FOk Tryz.prog 143 kisrefS:=fk (cx [] [] 16 [1]) A0 trivial Tryz.func143 fun z r _ h=>⟨0,.trans (by kernel_rfl) ((aVz z.1).trans h)⟩
theorem aMm:FOk Tryz.prog 180 kupS:=fk (cx [] [] 27 []) A0 trivial Tryz.func180 fun z r _ h=>⟨0,.trans (by kernel_rfl) ((aVu z.1 z.2.1).trans h)⟩
theorem aG2:FOk Tryz.prog 135 kbelowS:=fk (cx [(180,kupS)] [] 29 []) ⟨[(3,(4,[.val 1 ((.int .i64)) false]))],[],[],[]⟩ ⟨aMm,trivial⟩ Tryz.func135 fun z r _ h=>(aVD z.1 z.2.1 z.2.2.1).elim fun k hk=>⟨k,.trans (by kernel_rfl) (hk.trans h)⟩
theorem aG0:FOk Tryz.prog 144 ksubS:=fk (cx [(135,kbelowS),(143,kisrefS)] [] 41 [4,5]) A0 ⟨aG2,aMq,trivial⟩ Tryz.func144 fun z r _ h=>⟨0,.trans (by kernel_rfl) ((aVv z.1 z.2.1 z.2.2.1).trans h)⟩
theorem aCX:FOk Tryz.prog 89 raboveS:=fk (cx [] [16] 30 []) ⟨[(2,(6,[.val 1 ((.int .i64)) false,.val 5 (bA) true]))],[],[],[]⟩ trivial Tryz.func89 fun z r _ h=>(aSI z.1 z.2.1 r h).elim fun k hk=>⟨k,.trans (by kernel_rfl) hk⟩
theorem aJ7:FOk Tryz.prog 52 risrefS:=fk (cx [] [] 16 [1]) A0 trivial Tryz.func52 fun z r _ h=>⟨0,.trans (by kernel_rfl) ((aSl z.1).trans h)⟩
theorem aKh:FOk Tryz.prog 130 rgoodS:=fk (cx [] [] 34 [2]) A0 trivial Tryz.func130 fun z r _ h=>⟨0,.trans (by kernel_rfl) ((aSy z.1 z.2.1).trans h)⟩
theorem aFJ:FOk Tryz.prog 53 rsubS:=fk (cx [(52,risrefS),(89,raboveS),(99,rinS)] [] 40 [4,5]) ⟨[],[],[(4,[[],[],[],[],[],[4],[4],[],[4,5,6,7],[4,5,6,7],[],[],[]])],[]⟩ ⟨aJ7,aCX,aBd,trivial⟩ Tryz.func53 fun z r _ h=>⟨0,.trans (by kernel_rfl) (aR8 z.1 z.2.1 z.2.2.1 r h)⟩
theorem aCR:FOk Tryz.prog 60 rtypesS:=fk (cx [] [] 26 []) ⟨[(4,(4,[.val 5 ((.int .i64)) false]))],[],[(6,[[],[0],[],[],[0,1,2,3],[0,1,2,3,4],[0,1,2,3],[0,1,2,3],[]])],[]⟩ trivial Tryz.func60 fun z r hl h=>(aR4 z.1 z.2.1 hl).elim fun k hk=>⟨k,.trans (by kernel_rfl) (hk.trans h)⟩
theorem aSo:FOk Tryz.prog 54 rintsS:=fk (cx [] [] 26 []) ⟨[(4,(4,[.val 5 ((.int .i64)) false]))],[],[(6,[[],[0],[],[],[0,1,2,3],[0,1,2,3,4],[0,1,2,3],[0,1,2,3],[]])],[]⟩ trivial Tryz.func54 fun z r hl h=>(aSn z.1 z.2.1 hl).elim fun k hk=>⟨k,.trans (by kernel_rfl) (hk.trans h)⟩
theorem aFY:FOk Tryz.prog 68 r5inS:=fk (cx [] [] 15 []) A0 trivial Tryz.func68 fun z r _ h=>⟨0,.trans (by kernel_rfl) ((aTv z.1 z.2.1 z.2.2.1).trans h)⟩
theorem aTt:FOk Tryz.prog 67 r5listS:=fk (cx [(68,r5inS)] [] 25 []) ⟨[(4,(4,[.val 7 ((.int .i64)) false]))],[],[],[]⟩ ⟨aFY,trivial⟩ Tryz.func67 fun z r hl h=>(aTs z.1 z.2.1 z.2.2.1 hl).elim fun k hk=>⟨k,.trans (by kernel_rfl) (hk.trans h)⟩
theorem aKE:FOk Tryz.prog 69 r5typS:=fk (cx [(68,r5inS)] [] 21 [1]) A0 ⟨aFY,trivial⟩ Tryz.func69 fun z r _ h=>⟨0,.trans (by kernel_rfl) ((aS8 z.1).trans h)⟩
theorem aS6:FOk Tryz.prog 66 r5typesS:=fk (cx [(69,r5typS)] [] 22 []) ⟨[(4,(4,[.val 5 ((.int .i64)) false]))],[],[],[]⟩ ⟨aKE,trivial⟩ Tryz.func66 fun z r hl h=>(aS5 z.1 z.2.1 hl).elim fun k hk=>⟨k,.trans (by kernel_rfl) (hk.trans h)⟩
theorem aF0:FOk Tryz.prog 34 r5fitsS:=fk (cx [(66,r5typesS),(67,r5listS),(68,r5inS),(69,r5typS),(70,rinstrS)] [] 142 [1,4,6]) ⟨[(4,(5,[.val 3 ((.int .i64)) false])),(10,(10,[.val 5 ((.int .i64)) false])),(16,(4,[.val 7 ((.int .i64)) false]))],[],[],[]⟩ ⟨aS6,aTt,aFY,aKE,aSt,trivial⟩ Tryz.func34 fun z r hl h=>(aTy z.1 hl).elim fun k hk=>⟨k,.trans (by kernel_rfl) (hk.trans h)⟩
theorem aTl:FOk Tryz.prog 73 r5numsS:=fk (cx [(71,rbytesS)] [14,21] 22 []) ⟨[(3,(3,[.val 3 (eO) true,.val 4 ((.int .i64)) false]))],[],[],[]⟩ ⟨aBf,trivial⟩ Tryz.func73 fun z r _ h=>(aTk z.1 r h).elim fun k hk=>⟨k,.trans (by kernel_rfl) hk⟩
theorem aKL:FOk Tryz.prog 75 r5oneS:=fk (cx [(71,rbytesS)] [] 14 [1]) ⟨[],[],[(2,[[],[0],[0],[],[],[]])],[]⟩ ⟨aBf,trivial⟩ Tryz.func75 fun z r _ h=>⟨0,.trans (by kernel_rfl) (aTj z.1 r h)⟩
theorem aTc:FOk Tryz.prog 72 r5severalS:=fk (cx [(71,rbytesS),(75,r5oneS)] [14,21] 22 []) ⟨[(3,(3,[.val 3 (eO) true,.val 4 ((.int .i64)) false]))],[],[],[]⟩ ⟨aBf,aKL,trivial⟩ Tryz.func72 fun z r _ h=>(aTb z.1 r h).elim fun k hk=>⟨k,.trans (by kernel_rfl) hk⟩
theorem aTh:FOk Tryz.prog 24 r5sameS:=fk (cx [(54,rintsS),(60,rtypesS)] [] 211 [2,3,7,8,10,11]) ⟨[(4,(4,[.val 5 ((.int .i64)) false])),(9,(5,[.val 6 ((.int .i64)) false])),(15,(10,[.val 9 ((.int .i64)) false])),(21,(4,[.val 12 ((.int .i64)) false]))],[],[(6,[[],[],[0,1],[],[],[0,1,2,3,4],[0,1,2,3,4],[0,1,2,3,4,5,6],[0,1,2,3,4],[0,1,2,3,4],[]]),(11,[[],[],[0,1],[],[],[0,1,2,3,4],[0,1,2,3,4],[0,1,2,3,4,5,6],[0,1,2,3,4],[0,1,2,3,4],[0,1,2,3,4,5,6,7,8,9],[0,1,2,3,4,5,6,7,8,9,10],[5,6,7,8,9],[]]),(17,[[],[],[0,1],[],[],[0,1,2,3,4],[0,1,2,3,4],[0,1,2,3,4,5,6],[0,1,2,3,4],[0,1,2,3,4],[0,1,2,3,4,5,6,7,8,9],[0,1,2,3,4,5,6,7,8,9,10],[5,6,7,8,9],[]]),(23,[[],[],[0,1],[],[],[0,1,2,3,4],[0,1,2,3,4],[0,1,2,3,4,5,6],[0,1,2,3,4],[0,1,2,3,4],[]])],[(11,[0,1,2,3,4,8,9,10,11,12,5,6,7,13]),(17,[0,1,2,3,4,8,9,10,11,12,5,6,7,13])]⟩ ⟨aSo,aCR,trivial⟩ Tryz.func24 fun z r hl h=>(aTg z.1 z.2.1 hl).elim fun k hk=>⟨k,.trans (by kernel_rfl) (hk.trans h)⟩
theorem aDl:FOk Tryz.prog 45 r5fieldsS:=fk (cx [(89,raboveS)] [20,31] 32 [2]) ⟨[(4,(3,[.val 6 (bM) true,.val 7 ((.int .i64)) false]))],[],[(6,[[],[0],[0],[0,1,2],[0,1,2,3],[0,1,2],[0,1,2],[0],[0],[0],[],[]])],[]⟩ ⟨aCX,trivial⟩ Tryz.func45 fun z r _ h=>(aTA z.1 z.2.1 r h).elim fun k hk=>⟨k,.trans (by kernel_rfl) hk⟩
theorem aFZ:FOk Tryz.prog 79 r5goodS:=fk (cx [(130,rgoodS)] [] 21 [2]) ⟨[(2,(4,[.val 5 ((.int .i64)) false]))],[],[(4,[[],[0],[],[],[0,1,2,3],[0,1,2,3],[0,1,2,3],[],[]])],[]⟩ ⟨aKh,trivial⟩ Tryz.func79 fun z r hl h=>(aTw z.1 z.2.1 hl).elim fun k hk=>⟨k,.trans (by kernel_rfl) (hk.trans h)⟩
theorem aTF:FOk Tryz.prog 80 r5classS:=fk (cx [(45,r5fieldsS),(53,rsubS),(60,rtypesS),(79,r5goodS)] [] 118 [2,5,8,9]) ⟨[(10,(11,[.val 7 ((.int .i64)) false]))],[(5,(2,[.val 6 (bA) false])),(12,(9,[]))],[(12,[[],[],[0,1],[],[],[0,1,2,3,4],[0,1,2,3,4],[0,1,2,3,4],[]]),(14,[[],[],[0,1],[0,1],[0,1,2,3],[0,1],[0,1],[],[],[0,1,2,3,4,5,6,7,8],[]]),(15,[[],[],[],[],[],[],[],[5,6],[5,6],[5,6,7,8],[5,6,7,8],[5,6,7,8],[5,6,7,8],[],[],[]]),(18,[[],[],[0,1],[0,1,2],[0,1],[0,1],[],[],[0,1,2,3,4,5,6,7],[]]),(19,[[],[],[],[0,1,2],[0,1,2],[0,1,2],[],[],[],[],[],[9,10],[9,10],[],[]])],[]⟩ ⟨aDl,aFJ,aCR,aFZ,trivial⟩ Tryz.func80 fun z r _ h=>(aTE z.1 z.2.1 r h).elim fun k hk=>⟨k,.trans (by kernel_rfl) hk⟩
theorem aTn:FOk Tryz.prog 131 r5namedS:=fk (cx [(45,r5fieldsS)] [] 105 [3,4,5]) ⟨[],[(4,(2,[.val 17 (.bool) false])),(7,(2,[.val 30 (.bool) false])),(10,(2,[.val 39 (.bool) false])),(13,(2,[.val 48 (.bool) false])),(16,(2,[.val 67 (.bool) false]))],[(15,[[],[],[0,1],[0,1],[0,1],[],[],[],[],[7,8],[7,8,9],[7,8,9],[7,8],[7,8],[],[],[]]),(22,[[],[],[0,1],[0,1],[0,1],[],[],[],[],[7,8],[7,8],[7,8,9,10],[7,8,9,10],[7,8],[7,8],[7,8],[7,8],[],[],[]])],[]⟩ ⟨aDl,trivial⟩ Tryz.func131 fun z r _ h=>⟨0,.trans (by kernel_rfl) (aTm z.1 z.2.1 z.2.2.1 r h)⟩
theorem aTp:FOk Tryz.prog 81 r5methodS:=fk (cx [(79,r5goodS),(130,rgoodS),(131,r5namedS)] [] 74 [2,3]) ⟨[(4,(4,[.val 5 ((.int .i64)) false]))],[(1,(2,[]))],[(6,[[],[0],[0,1],[0,1],[0,1,2,3],[0,1],[0,1],[],[]])],[]⟩ ⟨aFZ,aKh,aTn,trivial⟩ Tryz.func81 fun z r _ h=>(aTo z.1 z.2.1 r h).elim fun k hk=>⟨k,.trans (by kernel_rfl) hk⟩
theorem aTe:FOk Tryz.prog 39 r5saneS:=fk (cx [(34,r5fitsS),(79,r5goodS),(80,r5classS),(81,r5methodS)] [] 111 [1]) ⟨[(5,(3,[.val 3 (.bool) false,.val 4 ((.int .i64)) false])),(9,(3,[.val 3 (.bool) false,.val 5 ((.int .i64)) false])),(13,(10,[.val 3 (.bool) false,.val 6 ((.int .i64)) false])),(20,(3,[.val 3 (.bool) false,.val 8 ((.int .i64)) false]))],[(4,(4,[.val 3 (.bool) false])),(8,(4,[.val 3 (.bool) false])),(18,(1,[.val 3 (.bool) false]))],[(11,[[],[0],[0],[0,1,2],[0],[0],[],[]])],[]⟩ ⟨aF0,aFZ,aTF,aTp,trivial⟩ Tryz.func39 fun z r hl h=>(aTd z.1 hl).elim fun k hk=>⟨k,.trans (by kernel_rfl) (hk.trans h)⟩
theorem aFz:FOk Tryz.prog 167 sinS:=fk (cx [] [] 12 []) A0 trivial Tryz.func167 fun z r _ h=>⟨0,.trans (by kernel_rfl) ((aRm z.1 z.2.1).trans h)⟩
theorem aFD:FOk Tryz.prog 114 sallS:=fk (cx [(165,kgoodS)] [] 29 [2,8]) ⟨[(2,(9,[.val 11 ((.int .i64)) false])),(5,(5,[.val 17 ((.int .i64)) false]))],[],[],[]⟩ ⟨aVB,trivial⟩ Tryz.func114 fun z r hl h=>(aRJ z.1 z.2.1 hl).elim fun k hk=>⟨k,.trans (by kernel_rfl) (hk.trans h)⟩
theorem aJK:FOk Tryz.prog 166 saboveS:=fk (cx [] [] 47 [2]) ⟨[(5,(3,[.val 4 ((.int .i64)) false,.val 7 ((.int .i64)) false]))],[(1,(3,[.val 5 (bA) false]))],[],[]⟩ trivial Tryz.func166 fun z r _ h=>(aRO z.1 z.2.1 r h).elim fun k hk=>⟨k,.trans (by kernel_rfl) hk⟩
theorem aRq:FOk Tryz.prog 168 sfitsS:=fk (cx [(144,ksubS)] [] 28 [3,7]) ⟨[],[],[(2,[[],[],[],[],[],[],[],[5,6],[5,6],[5,6,7,8],[5,6,7,8],[5,6,7,8],[5,6,7,8],[],[],[]])],[]⟩ ⟨aG0,trivial⟩ Tryz.func168 fun z r _ h=>⟨0,.trans (by kernel_rfl) (aRp z.1 z.2.1 z.2.2.1 r h)⟩
theorem aRM:FOk Tryz.prog 169 salikeS:=fk (cx [(202,eqTS)] [] 31 [2,3]) ⟨[],[],[(1,[[],[],[],[],[],[],[],[],[],[],[],[],[],[],[11,12,13],[11,12,13],[11,12,13],[],[],[],[],[],[20,21],[20,21],[],[],[]])],[]⟩ ⟨aNH,trivial⟩ Tryz.func169 fun z r _ h=>⟨0,.trans (by kernel_rfl) ((aRL z.1 z.2.1).trans h)⟩
theorem aRB:FOk Tryz.prog 115 sclassS:=fk (cx [(114,sallS),(166,saboveS),(167,sinS),(168,sfitsS),(169,salikeS)] [] 92 [2,5]) ⟨[(8,(5,[.val 50 ((.int .i64)) false]))],[],[(10,[[],[0],[0],[0],[],[],[],[],[7],[7,8],[],[],[],[],[],[14],[14],[],[],[],[],[19,20],[],[],[19,20,21,22,23],[19,20,21,22,23],[19,20,21,22,23,24,25],[19,20,21,22,23,24,25,26],[19,20,21,22,23,24,25],[19,20,21,22,23,24,25],[19,20,21,22,23],[19,20,21,22,23],[],[],[],[]])],[]⟩ ⟨aFD,aJK,aFz,aRq,aRM,trivial⟩ Tryz.func115 fun z r _ h=>(aRA z.1 z.2.1 r h).elim fun k hk=>⟨k,.trans (by kernel_rfl) hk⟩
theorem aRs:FOk Tryz.prog 170 sfieldsS:=fk (cx [(166,saboveS)] [] 21 []) A0 ⟨aJK,trivial⟩ Tryz.func170 fun z r _ h=>⟨0,.trans (by kernel_rfl) (aRr z.1 z.2.1 r h)⟩
theorem aRl:FOk Tryz.prog 171 sinstrS:=fk (cx [(167,sinS),(170,sfieldsS)] [] 106 [4,5,6]) ⟨[],[(4,(2,[.val 19 (.bool) false])),(7,(2,[.val 32 (.bool) false])),(10,(2,[.val 41 (.bool) false])),(13,(2,[.val 50 (.bool) false])),(16,(2,[.val 68 (.bool) false]))],[(15,[[],[],[0,1],[0,1],[0,1],[],[],[],[],[7,8],[7,8,9],[7,8,9],[7,8],[],[],[]]),(22,[[],[],[0,1],[0,1],[0,1],[],[],[],[],[7,8],[7,8],[7,8,9,10],[7,8,9,10],[7,8],[7,8],[7,8],[7,8],[],[],[]])],[]⟩ ⟨aFz,aRs,trivial⟩ Tryz.func171 fun z r _ h=>⟨0,.trans (by kernel_rfl) (aRk z.1 z.2.1 z.2.2.1 z.2.2.2.1 r h)⟩
theorem aRd:FOk Tryz.prog 116 smethodS:=fk (cx [(114,sallS),(172000171,sinstrS)] [] 69 [2,3,7]) ⟨[(7,(5,[.val 58 ((.int .i64)) false]))],[(1,(2,[]))],[],[]⟩ ⟨aFD,aRl,trivial⟩ Tryz.func116 fun z r _ h=>(aRc z.1 z.2.1 r h).elim fun k hk=>⟨k,.trans (by kernel_rfl) hk⟩
theorem aRv:FOk Tryz.prog 117 sentryS:=fk (cx [(167,sinS),(172,sentry1S),(176000173,containsEntryS)] [] 35 [2,5,6]) A0 ⟨aFz,aJB,aY9,trivial⟩ Tryz.func117 fun z r _ h=>⟨0,.trans (by kernel_rfl) (aRu z.1 z.2.1 r h)⟩
theorem aRE:FOk Tryz.prog 62 scheckS:=fk (cx [(113,ifitsS),(114,sallS),(115,sclassS),(116,smethodS),(117,sentryS)] [] 52 [1,5]) ⟨[(6,(5,[.val 20 ((.int .i64)) false])),(12,(5,[.val 31 ((.int .i64)) false])),(18,(5,[.val 43 ((.int .i64)) false]))],[],[],[]⟩ ⟨aML,aFD,aRB,aRd,aRv,trivial⟩ Tryz.func62 fun z r hl h=>(aRD z.1 hl).elim fun k hk=>⟨k,.trans (by kernel_rfl) (hk.trans h)⟩
theorem aZY:FOk Tryz.prog 87 cbelowS:=fk (cx [(107,clipIS),(135,kbelowS)] [18] 25 [2]) ⟨[(3,(5,[.val 5 (bA) true,.val 10 ((.int .i64)) false]))],[],[],[]⟩ ⟨aEE,aG2,trivial⟩ Tryz.func87 fun z r _ h=>(aZX z.1 z.2.1 r h).elim fun k hk=>⟨k,.trans (by kernel_rfl) hk⟩
theorem aN6:FOk Tryz.prog 88 cslotS:=fk (cx [] [] 41 [3]) A0 trivial Tryz.func88 fun z r _ h=>⟨0,.trans (by kernel_rfl) ((aN5 z.1 z.2.1 z.2.2.1).trans h)⟩
theorem aN3:FOk Tryz.prog 44 ctargetsS:=fk (cx [(87,cbelowS),(88,cslotS)] [14,39,44] 45 [2,3]) ⟨[(7,(6,[.val 5 (bA) true,.val 26 ((.int .i64)) false]))],[],[],[]⟩ ⟨aZY,aN6,trivial⟩ Tryz.func44 fun z r _ h=>(aYN z.1 z.2.1 r h).elim fun k hk=>⟨k,.trans (by kernel_rfl) hk⟩
theorem aZm:FOk Tryz.prog 56 cofS:=fk {cx [(44,ctargetsS),(107,clipIS),(1000000000106,sortIS),(1000000000108,compactIS)] [28] 39 [2,5,7,32,37] with rows:=[5,32,37],thaws:=[37] } ⟨[(5,(4,[.own 5 3 ((.int .i64)),.val 24 ((.int .i64)) false]))],[],[],[]⟩ ⟨aN3,aEE,aJi,aZk,trivial⟩ Tryz.func56 fun z r _ h=>(aZl z.1 z.2.1 r h).elim fun k hk=>⟨k,.trans (by kernel_rfl) hk⟩
theorem aTH:FOk Tryz.prog 90 r5belowS:=fk (cx [(89,raboveS),(99,rinS)] [21,25] 26 [2]) ⟨[(3,(4,[.val 5 (bA) true,.val 6 ((.int .i64)) false]))],[],[],[]⟩ ⟨aCX,aBd,trivial⟩ Tryz.func90 fun z r _ h=>(aTG z.1 z.2.1 r h).elim fun k hk=>⟨k,.trans (by kernel_rfl) hk⟩
theorem aKG:FOk Tryz.prog 91 r5slotS:=fk (cx [] [] 41 [3]) A0 trivial Tryz.func91 fun z r _ h=>⟨0,.trans (by kernel_rfl) ((aS9 z.1 z.2.1 z.2.2.1).trans h)⟩
theorem aKs:FOk Tryz.prog 46 r8targetsS:=fk (cx [(90,r5belowS),(91,r5slotS)] [14,44,48] 49 [2,3]) ⟨[(7,(5,[.val 5 (bA) true,.val 7 ((.int .i64)) false]))],[(2,(2,[.val 5 (bA) true]))],[(9,[[],[0],[0,1],[0],[0],[0,1,2,3,4],[0,1,2,3,4],[],[],[],[9],[10],[]])],[(9,[0,1,2,3,4,5,6,7,8,9,11,10,12])]⟩ ⟨aTH,aKG,trivial⟩ Tryz.func46 fun z r _ h=>(aSN z.1 z.2.1 r h).elim fun k hk=>⟨k,.trans (by kernel_rfl) hk⟩
theorem aS0:FOk Tryz.prog 61 r8callsS:=fk (cx [(46,r8targetsS),(99,rinS)] [] 32 [3]) ⟨[(2,(4,[.val 7 ((.int .i64)) false]))],[],[(4,[[],[0],[0],[0,1,2],[0],[0],[0],[0,1,2,3,4,5,6],[0],[0],[],[0,1,2,3,4,5,6,7,8,9,10],[]])],[]⟩ ⟨aKs,aBd,trivial⟩ Tryz.func61 fun z r _ h=>(aSZ z.1 z.2.1 z.2.2.1 r h).elim fun k hk=>⟨k,.trans (by kernel_rfl) hk⟩
theorem aKy:FOk Tryz.prog 26 r8edgesS:=fk {cx [(61,r8callsS)] [27,31] 36 [1,7,3,34] with rows:=[3,7,34] } ⟨[(3,(9,[.own 3 26 (bA),.val 4 ((.int .i64)) false])),(7,(4,[.val 5 (bA) true,.val 6 ((.int .i64)) false]))],[],[],[]⟩ ⟨aS0,trivial⟩ Tryz.func26 fun z r _ h=>(aSY z.1 r h).elim fun k hk=>⟨k,.trans (by kernel_rfl) hk⟩
theorem aSM:FOk Tryz.prog 25 r8waysS:=fk {cx [] [] 111 [13,22] with rows:=[13,22],nests:=[13] } ⟨[(4,(8,[.val 5 ((.int .i64)) false,.row 13 66 ((.osl 4 .bool))])),(8,(4,[.val 6 ((.int .i64)) false,.row 13 66 ((.osl 4 .bool))])),(13,(9,[.val 7 ((.int .i64)) false,.row 13 66 ((.osl 4 .bool))])),(16,(6,[.val 8 ((.int .i64)) false,.row 13 66 ((.osl 4 .bool))])),(19,(3,[.val 9 ((.int .i64)) false,.row 13 66 ((.osl 4 .bool))]))],[],[(11,[[],[0],[],[],[0,1,2,3],[0,1,2,3,4],[0,1,2,3],[0,1,2,3],[0,1,2,3,4,5,6,7],[0,1,2,3],[0,1,2,3],[],[]]),(21,[[],[0],[],[],[0,1,2,3],[0,1,2,3,4],[0,1,2,3,4,5],[0,1,2,3,4],[0,1,2,3,4],[0,1,2,3,4,5,6,7,8],[0,1,2,3,4],[0,1,2,3,4],[0,1,2,3,4],[0,1,2,3,4],[0,1,2,3,4,13],[0,1,2,3,4],[0,1,2,3,4],[0,1,2,3,4,13,14,15,16],[0,1,2,3,4],[0,1,2,3,4],[0,1,2,3,4],[0,1,2,3,4],[0,1,2,3,4,21],[0,1,2,3,4],[0,1,2,3,4],[0,1,2,3,4,21,22,23,24],[0,1,2,3,4],[0,1,2,3,4],[0,1,2,3,4],[0,1,2,3,4],[],[]])],[]⟩ trivial Tryz.func25 fun z r _ h=>(aSL z.1 r h).elim fun k hk=>⟨k,.trans (by kernel_rfl) hk⟩
theorem aX6:FOk Tryz.prog 154 fenterS:=fk {cx [] [41] 47 [1002000001,1002000002,1002000003,1002000004,1002000006,1000000,44] with rows:=[44] } ⟨[],[],[(1,[[],[],[],[],[0,1,2,3],[0,1,2,3,4],[0,1,2,3,4],[0,1,2,3,4],[0,1,2,3,4],[0,1,2,3,4,5,6,7,8],[0,1,2,3,4,5,6,7,8,9],[0,1,2,3,4,5,6,7,8,9],[0,1,2,3,4,5,6,7,8,9],[0,1,2,3,4,5,6,7,8,9],[0,1,2,3,4,5,6,7,8,9,10,11,12,13],[0,1,2,3,4,5,6,7,8,9,10,11,12,13],[0,1,2,3,4,5,6,7,8,9,10,11,12,13],[0,1,2,3,4,5,6,7,8,9,10,11,12,13],[9],[9],[],[]])],[(1,[0,1,2,3,4,5,6,7,8,19,9,10,11,12,13,14,15,16,17,18,20,21])]⟩ trivial Tryz.func154 fun z r _ h=>⟨0,.trans (by kernel_rfl) h⟩
theorem aZN:FOk Tryz.prog 107 clipIOS:=fk {cx [] [] 9 [0,8] with rows:=[1,8] } A0 trivial Tryz.func107 fun z r _ h=>⟨0,.trans (by kernel_rfl) ((aZM z.1).trans h)⟩
theorem aXP:FOk Tryz.prog 155 fleaveS:=fk {cx [(1000000000106,sortIS),(1000000000107,clipIOS)] [50,63] 70 [1002000001,1002000002,1002000003,1002000004,1002000006,1000000,4,41,53,65,67] with rows:=[4,41,53,65,67],thaws:=[65] } ⟨[(2,(6,[.own 4 3 ((.int .i64)),.lnk 1002000003 4 (.bool),.lnk 1002000004 3 ((.int .i64))]))],[],[(0,[[],[],[],[],[0,1,2,3],[],[],[0,1,2,3,4,5,6],[0,1,2,3,4,5,6],[0,1,2,3,4,5,6],[0,1,2,3,4,5,6],[0,1,2,3,4,5,6,7,8,9,10],[0,1,2,3,4,5,6],[0,1,2,3,4,5,6],[]]),(9,[[],[0],[0],[0],[0],[0,1,2,3,4],[0,1,2,3,4],[0,1,2,3,4],[0],[],[],[]])],[]⟩ ⟨aJi,aZN,trivial⟩ Tryz.func155 fun z r _ h=>(aXO z.1 z.2.1 r h).elim fun k hk=>⟨k,.trans (by kernel_rfl) hk⟩
theorem aX3:FOk Tryz.prog 109 ffromS:=fk {cx [(154,fenterS),(155,fleaveS)] [83] 169 [1002000001,1002000002,1002000003,1002000004,1002000006,1000000,11,4,87,134] with rows:=[4,11,87,134] } ⟨[(2,(17,[.own 4 188 (dD),.lnk 1002000001 3 ((.int .i64)),.lnk 1002000002 3 ((.int .i64)),.lnk 1002000003 4 (.bool),.lnk 1002000004 3 ((.int .i64)),.lnk 1002000006 26 (bA),.box 1000000 155 [(lC,false),(.any,false),(.any,false),(.any,false),(.any,false),((.int .i64),false),(.any,false)]])),(4,(9,[.own 4 188 (dD),.ptr 5 4 0 2,.lnk 1002000002 3 ((.int .i64))]))],[(7,(1,[.val 62 (.bool) false]))],[(4,[[],[],[],[],[0,1,2,3],[0,1,2,3],[0,1,2,3],[0,1,2,3],[0,1,2,3,4,5,6,7],[0,1,2,3,4,5,6,7],[0,1,2,3,4,5,6,7],[0,1,2,3,4,5,6,7],[0,1,2,3],[0,1,2,3],[0,1,2,3],[]]),(5,[[],[],[],[],[0,1,2,3],[0,1,2,3],[0,1,2,3],[0,1,2,3],[],[],[0,1,2,3,4,5,6,7,8,9],[0,1,2,3,4,5,6,7,8,9],[0,1,2,3,4,5,6,7,8,9],[0,1,2,3,4,5,6,7,8,9],[],[],[]]),(12,[[],[],[],[],[0,1,2,3],[0,1,2,3],[0,1,2,3],[0,1,2,3],[0,1,2,3,4,5,6,7],[0,1,2,3,4,5,6,7],[0,1,2,3,4,5,6,7],[0,1,2,3,4,5,6,7],[0,1,2,3,4,5,6,7,8,9,10,11],[0,1,2,3,4,5,6,7,8,9,10,11],[0,1,2,3,4,5,6,7,8,9,10,11],[0,1,2,3,4,5,6,7,8,9,10,11],[0,1,2,3,4,5,6,7],[0,1,2,3,4,5,6,7],[0,1,2,3,4,5,6,7,8,9,10,11,12,13,14,15,16,17],[0,1,2,3,4,5,6,7,8,9,10,11,12,13,14,15,16,17],[0,1,2,3,4,5,6,7,8,9,10,11,12,13,14,15,16,17],[0,1,2,3,4,5,6,7,8,9,10,11,12,13,14,15,16,17],[0,1,2,3,4,5,6,7,8,9,10,11,12,13,14,15,16,17,18,19,20,21],[0,1,2,3,4,5,6,7,8,9,10,11,12,13,14,15,16,17],[0,1,2,3,4,5,6,7,8,9,10,11,12,13,14,15,16,17],[0,1,2,3,4,5,6,7],[],[]]),(18,[[],[],[],[],[0,1,2,3],[0,1,2,3,4],[0,1,2,3,4],[0,1,2,3,4],[0,1,2,3,4],[0,1,2,3,4,5,6,7,8],[0,1,2,3,4],[0,1,2,3,4],[0,1,2,3,4,5,6,7,8,9,10,11],[0,1,2,3,4,5,6,7,8,9,10,11],[0,1,2,3,4,5,6,7,8,9,10,11],[0,1,2,3,4,5,6,7,8,9,10,11],[0,1,2,3,4,5,6,7,8,9,10,11,12,13,14,15],[0,1,2,3,4,5,6,7,8,9,10,11],[0,1,2,3,4,5,6,7,8,9,10,11],[0,1,2,3,4],[],[]])],[]⟩ ⟨aX6,aXP,trivial⟩ Tryz.func109 fun z r _ h=>(aX2 z.1 z.2.1 r h).elim fun k hk=>⟨k,.trans (by kernel_rfl) hk⟩
theorem aZP:FOk Tryz.prog 110 clipIIOS:=fk {cx [] [] 9 [0,8] with rows:=[1,8] } A0 trivial Tryz.func110 fun z r _ h=>⟨0,.trans (by kernel_rfl) ((aZO z.1).trans h)⟩
theorem aSv:FOk Tryz.prog 57 ringsS:=fk {cx [(109,ffromS),(1000000000110,clipIIOS)] [] 39 [2,10,12,14,2016001,2016002,2016003,2016004,2016006,16,38] with rows:=[2,10,12,14,38],lnks:=[(155,[1,2,3,4,6])] } ⟨[(4,(5,[.val 19 ((.int .i64)) false,.lnk 2016001 3 ((.int .i64)),.lnk 2016002 3 ((.int .i64)),.lnk 2016003 4 (.bool),.lnk 2016004 3 ((.int .i64)),.lnk 2016006 26 (bA),.box 16 155 [(lC,false),(.any,false),(.any,false),(.any,false),(.any,false),((.int .i64),false),(.any,false)]]))],[],[(2,[[],[0],[0],[0,1,2],[0,1,2],[0,1,2,3,4],[0,1,2,3,4],[],[],[]])],[]⟩ ⟨aX3,aZP,trivial⟩ Tryz.func57 fun z r _ h=>(aSu z.1 r h).elim fun k hk=>⟨k,.trans (by kernel_rfl) hk⟩
theorem aTr:FOk Tryz.prog 97 r5localS:=fk (cx [] [] 26 [2,4]) ⟨[],[],[(1,[[],[0],[0],[],[0,1,2,3],[0,1,2,3],[],[]])],[]⟩ trivial Tryz.func97 fun z r _ h=>⟨0,.trans (by kernel_rfl) h⟩
theorem aSk:FOk Tryz.prog 129 rjoinS:=fk (cx [(53,rsubS),(89,raboveS),(99,rinS)] [] 55 [4,5,6]) ⟨[(9,(4,[.val 9 ((.int .i64)) false]))],[],[(7,[[],[0],[0],[],[0,1,2,3],[0,1,2,3,4],[0,1,2,3,4],[],[],[]])],[]⟩ ⟨aFJ,aCX,aBd,trivial⟩ Tryz.func129 fun z r _ h=>(aSj z.1 z.2.1 z.2.2.1 r h).elim fun k hk=>⟨k,.trans (by kernel_rfl) hk⟩
theorem aSV:FOk Tryz.prog 98 r8givesS:=fk (cx [] [] 10 [1]) A0 trivial Tryz.func98 fun z r _ h=>⟨0,.trans (by kernel_rfl) h⟩
theorem aSU:FOk Tryz.prog 51 r8ruleS:=fk (cx [(45,r5fieldsS),(91,r5slotS),(97,r5localS),(98,r8givesS)] [] 218 [3,5,8,9,10,11,12]) ⟨[],[],[(5,[[],[],[0,1],[]]),(7,[[],[],[0,1],[]]),(9,[[],[],[0,1],[],[],[0,1,2,3,4],[0,1,2,3,4],[],[],[8],[]]),(11,[[],[],[0,1],[],[],[0,1,2,3,4],[0,1,2,3,4],[],[],[],[]]),(17,[[],[],[0,1],[0,1],[2,3],[]]),(19,[[],[0],[],[0,1,2],[0,1,2],[3,4],[]]),(21,[[],[],[0,1],[]]),(23,[[],[],[0,1],[0,1],[2,3],[]]),(25,[[],[0],[],[0,1,2],[0,1,2],[3,4],[]]),(29,[[],[],[0,1],[0,1],[2,3],[]]),(31,[[],[],[0,1],[0,1,2],[0,1,2],[0,1],[0,1,2,3,4,5],[0,1,2,3,4,5],[0,1,2,3,4,5,6,7],[0,1,2,3,4,5,6,7],[0,1,2,3,4,5,6,7],[0,1],[6,7,8,9,10,11],[]]),(33,[[],[0],[0,1],[0,1],[0],[0,1,2,3,4],[0,1,2,3,4],[0],[0],[],[],[]]),(35,[[],[],[0,1],[0,1],[],[],[],[0,1,2,3,4,5,6],[]]),(39,[[],[],[0,1],[0,1],[2,3],[]]),(43,[[],[],[0,1],[0,1],[],[],[],[0,1,2,3,4,5,6],[0,1,2,3,4,5,6],[0,1,2,3,4,5,6,7,8],[0,1,2,3,4,5,6,7,8],[0,1,2,3,4,5,6],[0,1,2,3,4,5,6],[0,1,2,3,4,5,6],[],[]]),(46,[[],[],[0,1],[0,1],[0,1,2,3],[0,1],[0,1],[0,1],[0,1],[],[0,1,2,3,4,5,6,7,8,9],[0,1,2,3,4,5,6,7,8,9],[0,1,2,3,4,5,6,7,8,9,10,11],[0,1,2,3,4,5,6,7,8,9],[0,1,2,3,4,5,6,7,8,9],[],[],[]]),(48,[[],[0],[],[0,1,2],[0,1,2],[3,4],[]])],[(5,[1,2,0,3]),(7,[1,2,0,3]),(9,[0,1,2,3,4,5,6,7,9,8,10]),(17,[0,1,3,4,2,5]),(19,[0,1,2,4,5,3,6]),(21,[1,2,0,3]),(23,[0,1,3,4,2,5]),(25,[0,1,2,4,5,3,6]),(29,[0,1,3,4,2,5]),(35,[1,2,3,4,5,6,7,0,8]),(39,[0,1,3,4,2,5]),(48,[0,1,2,4,5,3,6])]⟩ ⟨aDl,aKG,aTr,aSV,trivial⟩ Tryz.func51 fun z r _ h=>⟨0,.trans (by kernel_rfl) h⟩
theorem aKu:FOk Tryz.prog 21 r8stepS:=fk (cx [(51,r8ruleS),(52,risrefS),(53,rsubS)] [65] 196 [4,11,15,18,19]) ⟨[(21,(9,[.val 17 ((.int .i64)) false]))],[(5,(2,[.val 12 (bA) true])),(7,(2,[.val 12 (bA) true])),(9,(2,[.val 12 (bA) true])),(11,(2,[])),(14,(3,[.val 13 (bM) false,.val 14 (bM) false])),(14,(1,[.val 104 (.bool) false])),(17,(2,[]))],[(11,[[],[],[],[],[],[],[],[4,5,6],[4,5,6],[4,5,6,7,8],[4,5,6],[4,5,6],[4,5,6],[4,5,6],[],[]]),(16,[[],[],[0,1],[0,1,2],[0,1],[2,3,4],[]]),(23,[[],[0],[0,1],[0],[],[],[0,1,2,3,4,5],[0,1,2,3,4,5,6],[0,1,2,3,4,5],[0,1,2,3,4,5],[0,1,2,3,4,5,6,7,8,9],[0,1,2,3,4,5,6,7,8,9,10],[6,7,8,9],[]])],[(16,[0,1,3,4,5,2,6]),(23,[0,1,2,3,4,5,9,10,11,12,6,7,8,13])]⟩ ⟨aSU,aJ7,aFJ,trivial⟩ Tryz.func21 fun z r _ h=>(aSP z.1 z.2.1 z.2.2.1 z.2.2.2.1 r h).elim fun k hk=>⟨k,.trans (by kernel_rfl) hk⟩
theorem aSR:FOk Tryz.prog 78 r8shapesS:=fk {cx [(21,r8stepS),(60,rtypesS),(129,rjoinS)] [119] 139 [2,27,18] with rows:=[27] } ⟨[(7,(32,[.val 8 ((.int .i64)) false,.row 27 52 (oE)])),(11,(26,[.val 9 (.bool) false,.val 10 ((.int .i64)) false,.row 27 52 (oE)])),(18,(19,[.val 9 (.bool) false,.val 14 ((.int .i64)) false,.row 27 52 (oE)])),(28,(6,[.val 16 (bM) true,.val 17 ((.int .i64)) false]))],[],[(14,[[],[0],[0,1],[0,1,2],[0,1,2,3],[0,1,2],[0,1,2],[0,1,2],[],[],[],[10],[10,11],[11,12],[12],[]]),(30,[[],[],[0,1],[0,1,2],[0,1],[0,1],[0,1],[0,1,2,3,4,5,6],[0,1],[0,1],[0,1,2,3,4,5,6,7,8,9],[0,1,2,3,4,5,6,7,8,9,10],[0,1,2,3,4,5,6,7,8,9],[0,1,2,3,4,5,6,7,8,9],[],[0,1,2,3,4,5,6,7,8,9,10,11,12,13,14],[]])],[(14,[0,1,2,3,4,5,6,7,8,9,10,12,14,11,13,15])]⟩ ⟨aKu,aCR,aSk,trivial⟩ Tryz.func78 fun z r _ h=>(aSQ z.1 z.2.1 r h).elim fun k hk=>⟨k,.trans (by kernel_rfl) hk⟩
theorem aS4:FOk Tryz.prog 38 r8allS:=fk (cx [(78,r8shapesS)] [25] 30 [1]) ⟨[(3,(6,[.val 4 (fZ) true,.val 5 ((.int .i64)) false]))],[],[],[]⟩ ⟨aSR,trivial⟩ Tryz.func38 fun z r _ h=>(aS3 z.1 r h).elim fun k hk=>⟨k,.trans (by kernel_rfl) hk⟩
theorem aSX:FOk Tryz.prog 121 r8frameS:=fk (cx [] [] 71 [3]) ⟨[(5,(4,[.val 7 ((.int .i64)) false,.val 8 ((.int .i64)) false]))],[(4,(5,[.val 7 ((.int .i64)) false]))],[(9,[[],[],[0,1],[],[],[],[],[],[0,1,2,3,4,5,6,7],[0,1,2,3,4,5,6,7],[0,1,2,3,4,5,6,7,8,9],[0,1,2,3,4,5,6,7],[0,1,2,3,4,5,6,7],[0,1,2,3,4,5,6,7],[0,1,2,3,4,5,6,7],[],[0,1,2,3,4,5,6,7,8,9,10,11,12,13,14,15],[],[]])],[]⟩ trivial Tryz.func121 fun z r _ h=>(aSW z.1 z.2.1 z.2.2.1 r h).elim fun k hk=>⟨k,.trans (by kernel_rfl) hk⟩
theorem aPW:FOk Tryz.prog 176 tdeepS:=fk (cx [] [] 32 [7]) ⟨[(5,(4,[.val 5 ((.int .i64)) false,.val 21 ((.int .i64)) false]))],[],[],[]⟩ trivial Tryz.func176 fun z r _ h=>(aPV z.1 z.2.1 r h).elim fun k hk=>⟨k,.trans (by kernel_rfl) hk⟩
theorem aYy:FOk Tryz.prog 120 dframeS:=fk (cx [(176,tdeepS)] [] 34 [3,7]) ⟨[],[],[(4,[[],[],[],[],[0,1,2,3],[0,1,2,3],[0,1,2,3],[],[0,1,2,3,4,5,6,7],[0,1,2,3,4,5,6,7,8],[0,1,2,3,4,5,6,7],[],[]])],[]⟩ ⟨aPW,trivial⟩ Tryz.func120 fun z r _ h=>⟨0,.trans (by kernel_rfl) h⟩
theorem aW8:FOk Tryz.prog 137 growTS:=fk {cx [] [] 27 [4,22,25,0,26] with rows:=[0,4,20,22,25,26],thaws:=[1000009,1000017,1000018] } A0 trivial Tryz.func137 fun z r _ h=>⟨0,.trans (by kernel_rfl) (aW7 z.1 z.2.1 r h)⟩
theorem aHU:FOk Tryz.prog 94 concatTS:=fk {cx [(137,growTS)] [31] 36 [24,6,33] with rows:=[6,33] } ⟨[(3,(6,[.val 3 ((.int .i64)) false,.val 11 ((.int .i64)) false])),(11,(4,[.own 6 39 (dD),.val 27 ((.int .i64)) false]))],[],[],[]⟩ ⟨aW8,trivial⟩ Tryz.func94 fun z r _ h=>(aZh z.1 r h).elim fun k hk=>⟨k,.trans (by kernel_rfl) hk⟩
theorem aWo:FOk Tryz.prog 136 indexIS:=fk (cx [] [] 19 []) ⟨[(2,(5,[.val 8 ((.int .i64)) false]))],[],[],[]⟩ trivial Tryz.func136 fun z r hl h=>(aWn z.1 z.2.1 hl).elim fun k hk=>⟨k,.trans (by kernel_rfl) (hk.trans h)⟩
theorem aHT:FOk Tryz.prog 93 containsIS:=fk (cx [(136,indexIS)] [] 9 []) A0 ⟨aWo,trivial⟩ Tryz.func93 fun z r hl h=>⟨0,.trans (by kernel_rfl) ((aY6 z.1 z.2.1 hl).trans h)⟩
theorem aZG:FOk Tryz.prog 50 clipQS:=fk (cx [] [] 9 []) A0 trivial Tryz.func50 fun z r _ h=>⟨0,.trans (by kernel_rfl) ((aZF z.1).trans h)⟩
theorem aZE:FOk Tryz.prog 119 clipSSS:=fk (cx [] [] 9 []) A0 trivial Tryz.func119 fun z r _ h=>⟨0,.trans (by kernel_rfl) ((aZD z.1).trans h)⟩
theorem aYL:FOk Tryz.prog 134 cupS:=fk (cx [] [] 19 [2]) A0 trivial Tryz.func134 fun z r _ h=>⟨0,.trans (by kernel_rfl) (aYK z.1 z.2.1 r h)⟩
theorem aOM:FOk Tryz.prog 86 cfieldsS:=fk (cx [(94,concatTS),(134,cupS)] [] 26 [2]) ⟨[(4,(3,[.val 1 ((.int .i64)) false,.val 5 (bM) false]))],[],[],[]⟩ ⟨aHU,aYL,trivial⟩ Tryz.func86 fun z r _ h=>(aZV z.1 z.2.1 r h).elim fun k hk=>⟨k,.trans (by kernel_rfl) hk⟩
theorem aYQ:FOk Tryz.prog 43 csizeS:=fk (cx [(86,cfieldsS)] [] 10 [2]) A0 ⟨aOM,trivial⟩ Tryz.func43 fun z r _ h=>⟨0,.trans (by kernel_rfl) (aYP z.1 z.2.1 r h)⟩
theorem aZA:FOk Tryz.prog 140 clocalS:=fk (cx [] [] 40 [2,4]) A0 trivial Tryz.func140 fun z r _ h=>⟨0,.trans (by kernel_rfl) (aZz z.1 z.2.1 r h)⟩
theorem aVy:FOk Tryz.prog 213 kjoinS:=fk (cx [(135,kbelowS),(144,ksubS),(180,kupS)] [] 47 [4,5,6]) ⟨[(8,(4,[.val 7 ((.int .i64)) false]))],[],[],[]⟩ ⟨aG2,aG0,aMm,trivial⟩ Tryz.func213 fun z r _ h=>(aVw z.1 z.2.1 z.2.2.1 r h).elim fun k hk=>⟨k,.trans (by kernel_rfl) hk⟩
theorem aUt:FOk Tryz.prog 184 numIsS:=fk (cx [] [] 9 []) A0 trivial Tryz.func184 fun z r _ h=>⟨0,.trans (by kernel_rfl) ((aUs z.1).trans h)⟩
theorem aXI:FOk Tryz.prog 182 fnumberS:=fk (cx [] [] 2 [0]) A0 trivial Tryz.func182 fun z r _ h=>⟨0,.trans (by kernel_rfl) h⟩
theorem aYa:FOk Tryz.prog 183 farrayS:=fk (cx [] [] 2 [0]) A0 trivial Tryz.func183 fun z r _ h=>⟨0,.trans (by kernel_rfl) h⟩
theorem aXH:FOk Tryz.prog 141 fobjectS:=fk (cx [] [] 5 [2]) A0 trivial Tryz.func141 fun z r _ h=>⟨0,.trans (by kernel_rfl) h⟩
theorem aXC:FOk Tryz.prog 181 fplain1S:=fk (cx [] [] 4 []) A0 trivial Tryz.func181 fun z r _ h=>⟨0,.trans (by kernel_rfl) h⟩
theorem aXG:FOk Tryz.prog 139 fof1S:=fk (cx [] [] 5 [1]) A0 trivial Tryz.func139 fun z r _ h=>⟨0,.trans (by kernel_rfl) h⟩
theorem aX9:FOk Tryz.prog 142 fcalledS:=fk (cx [(94,concatTS)] [] 24 [2,4,5]) A0 ⟨aHU,trivial⟩ Tryz.func142 fun z r _ h=>⟨0,.trans (by kernel_rfl) (aX8 z.1 z.2.1 r h)⟩
theorem aXB:FOk Tryz.prog 138 fplainS:=fk (cx [(181,fplain1S),(182,fnumberS),(183,farrayS),(184,numIsS)] [] 118 [2,5]) A0 ⟨aXC,aXI,aYa,aUt,trivial⟩ Tryz.func138 fun z r _ h=>⟨0,.trans (by kernel_rfl) ((aXA z.1).trans h)⟩
theorem aXF:FOk Tryz.prog 95 fofS:=fk (cx [(86,cfieldsS),(88,cslotS),(138,fplainS),(139,fof1S),(140,clocalS),(141,fobjectS),(142,fcalledS)] [] 163 [3,4,6,7,8]) ⟨[],[],[(14,[[],[0],[0],[0],[],[0,1,2,3,4],[0,1,2,3,4,5],[0,1,2,3,4,5,6],[0,1,2,3,4,5,6],[5],[0,1,2,3,4,5,6,7,8,9],[0,1,2,3,4,5,6,7,8,9],[5],[5],[],[],[]]),(16,[[],[],[],[0,1,2],[0,1,2,3],[0,1,2,3],[],[0,1,2,3,4,5,6],[0,1,2,3,4,5,6],[],[],[],[],[]]),(25,[[],[],[0,1],[],[],[0,1,2,3,4],[0,1,2,3,4,5],[0,1,2,3,4,5],[0,1,2,3,4,5],[0,1,2,3,4],[],[]]),(27,[[],[0],[],[0,1,2],[0,1,2,3],[0,1,2,3],[3],[],[],[]])],[]⟩ ⟨aOM,aN6,aXB,aXG,aZA,aXH,aX9,trivial⟩ Tryz.func95 fun z r _ h=>⟨0,.trans (by kernel_rfl) (aXD z.1 z.2.1 z.2.2.1 r h)⟩
theorem aX5:FOk Tryz.prog 96 ffitsS:=fk (cx [(143,kisrefS),(144,ksubS)] [] 33 [4,6,7]) A0 ⟨aMq,aG0,trivial⟩ Tryz.func96 fun z r _ h=>⟨0,.trans (by kernel_rfl) ((aX4 z.1 z.2.1 z.2.2.1 z.2.2.2.1).trans h)⟩
theorem aXK:FOk Tryz.prog 92 fnextsS:=fk (cx [] [] 24 [2]) A0 trivial Tryz.func92 fun z r _ h=>⟨0,.trans (by kernel_rfl) ((aXJ z.1 z.2.1).trans h)⟩
theorem aNf:FOk Tryz.prog 49 fstepS:=fk (cx [(92,fnextsS),(93,containsIS),(94,concatTS),(95,fofS),(96,ffitsS)] [] 130 [4,11,12,15]) ⟨[(16,(5,[.val 9 (bA) false,.val 104 ((.int .i64)) false]))],[],[(18,[[],[0],[0],[0,1,2],[0,1,2,3],[0,1,2,3,4],[0,1,2,3],[0,1,2],[0,1,2],[0,1,2,3,4,5,6,7,8],[],[]]),(21,[[],[0],[],[0,1,2],[0,1,2],[],[],[0,1,2,3,4,5,6],[7],[],[]])],[(21,[0,1,2,3,4,5,6,8,7,9,10])]⟩ ⟨aXK,aHT,aHU,aXF,aX5,trivial⟩ Tryz.func49 fun z r _ h=>(aXv z.1 z.2.1 z.2.2.1 z.2.2.2.1 r h).elim fun k hk=>⟨k,.trans (by kernel_rfl) hk⟩
theorem aPR:FOk Tryz.prog 204 tmergeS:=fk {cx [(145,clipTS),(146,cloneTS),(202,eqTS),(213,kjoinS)] [] 63 [3,4,6,28,9,11] with rows:=[9,28],thaws:=[1000056] } ⟨[(7,(6,[.val 31 ((.int .i64)) false,.row 9 39 (dD)]))],[],[(9,[[],[0],[0,1],[0,1],[0,1,2,3],[0,1,2,3],[0,1,2,3,4,5],[0,1,2,3],[0,1,2,3],[0,1,2,3,4,5,6,7,8],[0,1],[],[]])],[]⟩ ⟨aHX,aOq,aNH,aVy,trivial⟩ Tryz.func204 fun z r _ h=>(aPQ z.1 z.2.1 z.2.2.1 r h).elim fun k hk=>⟨k,.trans (by kernel_rfl) hk⟩
theorem aPM:FOk Tryz.prog 175 toneS:=fk (cx [(49,fstepS),(204,tmergeS)] [] 62 [1000003,1000004,5,16]) ⟨[(5,(8,[.val 36 ((.int .i64)) false,.row 1000003 52 (oE),.row 1000004 4 (.bool)]))],[],[(1,[[],[0],[0,1],[0,1,2],[0,1,2,3],[0,1,2],[0,1,2],[0,1,2],[],[],[],[10],[10,11],[11,12],[12],[]]),(7,[[],[0],[0,1],[0],[0],[0,1,2,3,4],[],[],[],[8],[8,9],[0,1,2,3,4,5,6,7,8,9,10],[9,10],[10],[]])],[(1,[0,1,2,3,4,5,6,7,8,9,10,12,14,11,13,15]),(7,[0,1,2,3,4,5,6,7,8,11,13,9,10,12,14])]⟩ ⟨aNf,aPR,trivial⟩ Tryz.func175 fun z r _ h=>(aPL z.1 z.2.1 z.2.2.1 z.2.2.2.1 z.2.2.2.2.1 r h).elim fun k hk=>⟨k,.trans (by kernel_rfl) hk⟩
theorem aPP:FOk Tryz.prog 118 tmethodS:=fk {cx [(1000000000175,toneS)] [] 52 [2,18,7,27,8] with rows:=[7,8,18,27] } ⟨[(7,(9,[.row 7 52 (oE),.row 8 4 (.bool)])),(8,(7,[.val 32 ((.int .i64)) false]))],[],[],[]⟩ ⟨aPM,trivial⟩ Tryz.func118 fun z r _ h=>(aPO z.1 z.2.1 r h).elim fun k hk=>⟨k,.trans (by kernel_rfl) hk⟩
theorem aPZ:FOk Tryz.prog 63 tcheckS:=fk (cx [(118,tmethodS),(119,clipSSS)] [28] 35 [1]) ⟨[(2,(7,[.val 2 (fZ) true,.val 13 ((.int .i64)) false]))],[],[],[]⟩ ⟨aPP,aZE,trivial⟩ Tryz.func63 fun z r _ h=>(aPX z.1 r h).elim fun k hk=>⟨k,.trans (by kernel_rfl) hk⟩
theorem aYH:FOk Tryz.prog 112 cyc1S:=fk (cx [(93,containsIS)] [] 7 []) A0 ⟨aHT,trivial⟩ Tryz.func112 fun z r hl h=>⟨0,.trans (by kernel_rfl) ((aYG z.1 z.2.1 hl).trans h)⟩
theorem aWw:FOk Tryz.prog 85 indexCycS:=fk (cx [(112,cyc1S)] [] 19 []) ⟨[(2,(5,[.val 8 ((.int .i64)) false]))],[],[],[]⟩ ⟨aYH,trivial⟩ Tryz.func85 fun z r hl h=>(aWv z.1 z.2.1 hl).elim fun k hk=>⟨k,.trans (by kernel_rfl) (hk.trans h)⟩
theorem aZc:FOk Tryz.prog 41 containsCycS:=fk (cx [(114000085,indexCycS)] [] 9 []) A0 ⟨aWw,trivial⟩ Tryz.func41 fun z r hl h=>⟨0,.trans (by kernel_rfl) ((aZb z.1 z.2.1 hl).trans h)⟩
theorem aYF:FOk Tryz.prog 59 cyclicS:=fk {cx [(114000041,containsCycS)] [] 28 [3] with thaws:=[1000003] } ⟨[(2,(6,[.val 9 ((.int .i64)) false]))],[],[],[]⟩ ⟨aZc,trivial⟩ Tryz.func59 fun z r _ h=>(aYE z.1 z.2.1 r h).elim fun k hk=>⟨k,.trans (by kernel_rfl) hk⟩
theorem aYD:FOk Tryz.prog 64 dboundS:=fk {cx [(56,cofS),(57,ringsS),(59,cyclicS),(93,containsIS),(120,dframeS)] [27] 113 [2,37,8] with rows:=[8,37] } ⟨[(3,(4,[.val 6 (lC) true,.val 24 ((.int .i64)) false])),(9,(26,[.val 41 ((.int .i64)) false,.row 8 3 ((.int .i64))])),(14,(15,[.val 12 ((.int .i64)) false,.val 13 ((.int .i64)) false,.val 50 ((.int .i64)) false])),(23,(5,[.val 13 ((.int .i64)) false,.val 76 ((.int .i64)) false])),(30,(4,[.val 100 ((.int .i64)) false,.row 8 3 ((.int .i64))]))],[(17,(2,[.val 16 ((.int .i64)) false]))],[],[]⟩ ⟨aZm,aSv,aYF,aHT,aYy,trivial⟩ Tryz.func64 fun z r _ h=>(aYC z.1 z.2.1 r h).elim fun k hk=>⟨k,.trans (by kernel_rfl) hk⟩
theorem aUH:FOk Tryz.prog 132 mul64S:=fk (cx [] [] 51 []) A0 trivial Tryz.func132 fun z r _ h=>⟨0,.trans (by kernel_rfl) (aUG z.1 z.2.1 r h)⟩
theorem aGT:FOk Tryz.prog 82 lofS:=fk (cx [] [] 11 [2]) A0 trivial Tryz.func82 fun z r _ h=>⟨0,.trans (by kernel_rfl) ((aVk z.1).trans h)⟩
theorem aVe:FOk Tryz.prog 133 lsizeS:=fk (cx [] [] 10 []) A0 trivial Tryz.func133 fun z r _ h=>⟨0,.trans (by kernel_rfl) ((aVd z.1).trans h)⟩
theorem aVg:FOk Tryz.prog 83 lplusS:=fk (cx [(82,lofS)] [] 20 [2,3,4]) A0 ⟨aGT,trivial⟩ Tryz.func83 fun z r _ h=>⟨0,.trans (by kernel_rfl) (aVf z.1 z.2.1 r h)⟩
theorem aVc:FOk Tryz.prog 84 ltimesS:=fk (cx [(82,lofS),(132,mul64S),(133,lsizeS)] [] 39 [2,3,4]) ⟨[],[],[(3,[[],[],[],[0,1,2],[0,1,2],[],[],[],[],[8],[9],[]])],[(3,[0,1,2,3,4,5,6,7,8,10,9,11])]⟩ ⟨aGT,aUH,aVe,trivial⟩ Tryz.func84 fun z r _ h=>⟨0,.trans (by kernel_rfl) (aVb z.1 z.2.1 r h)⟩
theorem aVr:FOk Tryz.prog 40 lholdsS:=fk (cx [(82,lofS),(83,lplusS),(84,ltimesS)] [] 43 [2,6]) ⟨[(5,(4,[.val 19 ((.int .i64)) false,.box 6 130 [((.int .i64),false),(.bool,false)]]))],[],[(7,[[],[0],[0],[0,1,2],[0,1,2,3],[0,1,2],[0,1,2],[0],[0],[],[]])],[]⟩ ⟨aGT,aVg,aVc,trivial⟩ Tryz.func40 fun z r _ h=>(aVq z.1 z.2.1 r h).elim fun k hk=>⟨k,.trans (by kernel_rfl) hk⟩
theorem aTR:FOk Tryz.prog 48 pshapeS:=fk (cx [] [] 28 [6]) A0 trivial Tryz.func48 fun z r _ h=>⟨0,.trans (by kernel_rfl) (aTQ z.1 z.2.1 z.2.2.1 r h)⟩
theorem aT5:FOk Tryz.prog 17 pcostS:=fk (cx [(43,csizeS),(44,ctargetsS)] [] 50 [2,3]) ⟨[(8,(5,[.val 5 ((.int .i64)) false,.val 27 ((.int .i64)) false]))],[],[],[]⟩ ⟨aYQ,aN3,trivial⟩ Tryz.func17 fun z r _ h=>(aT4 z.1 z.2.1 r h).elim fun k hk=>⟨k,.trans (by kernel_rfl) hk⟩
theorem aTV:FOk Tryz.prog 47 prowS:=fk {cx [] [] 33 [2008000,8,11,2009000,9] with rows:=[11],thaws:=[32],lnks:=[(49,[0])] } A0 trivial Tryz.func47 fun z r _ h=>⟨0,.trans (by kernel_rfl) (aTU z.1 z.2.1 z.2.2.1 z.2.2.2.1 r h)⟩
theorem aTT:FOk Tryz.prog 19 prulesS:=fk (cx [(17,pcostS),(47,prowS),(48,pshapeS),(49,fstepS),(50,clipQS)] [81,94] 110 [3,10,11]) ⟨[(6,(14,[.val 8 (vG) true,.val 54 ((.int .i64)) false])),(15,(4,[.val 8 (vG) true,.val 90 ((.int .i64)) false]))],[(12,(2,[.val 8 (vG) true]))],[],[]⟩ ⟨aT5,aTV,aTR,aNf,aZG,trivial⟩ Tryz.func19 fun z r _ h=>(aTS z.1 z.2.1 z.2.2.1 r h).elim fun k hk=>⟨k,.trans (by kernel_rfl) hk⟩
theorem aT1:FOk Tryz.prog 42 pnegS:=fk (cx [] [] 5 []) A0 trivial Tryz.func42 fun z r _ h=>⟨0,.trans (by kernel_rfl) h⟩
theorem aWg:FOk Tryz.prog 85 indexNegS:=fk (cx [(42,pnegS)] [] 19 []) ⟨[(2,(5,[.val 8 ((.int .i64)) false]))],[],[],[]⟩ ⟨aT1,trivial⟩ Tryz.func85 fun z r hl h=>(aWf z.1 z.2.1 hl).elim fun k hk=>⟨k,.trans (by kernel_rfl) (hk.trans h)⟩
theorem aY1:FOk Tryz.prog 41 containsNegS:=fk (cx [(44000085,indexNegS)] [] 9 []) A0 ⟨aWg,trivial⟩ Tryz.func41 fun z r hl h=>⟨0,.trans (by kernel_rfl) ((aY0 z.1 z.2.1 hl).trans h)⟩
theorem aT7:FOk Tryz.prog 15 pcheckS:=fk (cx [(19,prulesS),(40,lholdsS),(44000041,containsNegS)] [] 49 [2,7,9]) ⟨[(2,(12,[.val 15 ((.int .i64)) false])),(5,(6,[.val 25 ((.int .i64)) false]))],[],[],[]⟩ ⟨aTT,aVr,aY1,trivial⟩ Tryz.func15 fun z r _ h=>(aT6 z.1 z.2.1 r h).elim fun k hk=>⟨k,.trans (by kernel_rfl) hk⟩
theorem aPf:FOk Tryz.prog 31 aneedsS:=fk (cx [(64,dboundS)] [] 56 [2]) ⟨[(6,(5,[.val 4 ((.int .i64)) false,.val 8 ((.int .i64)) false,.val 23 ((.int .i64)) false]))],[(8,(1,[.val 34 (.bool) false]))],[(9,[[],[0],[0,1],[0],[0],[],[0,1,2,3,4,5],[0,1,2,3,4,5,6],[0,1,2,3,4,5,6],[0,1,2,3,4,5,6,7,8],[0,1,2,3,4,5,6],[0,1,2,3,4,5,6],[0,1,2,3,4,5,6],[0,1,2,3,4,5],[6,7,8,9,10,11,12,13],[]]),(11,[[],[0],[0],[0],[0,1,2,3],[0],[1,2,3,4,5],[],[]])],[(11,[0,1,2,3,5,6,4,7,8])]⟩ ⟨aYD,trivial⟩ Tryz.func31 fun z r _ h=>(bAo z.1 z.2.1 r h).elim fun k hk=>⟨k,.trans (by kernel_rfl) hk⟩
theorem aPo:FOk Tryz.prog 29 acheckS:=fk (cx [(15,pcheckS),(31,aneedsS),(62,scheckS),(63,tcheckS)] [] 58 [1]) A0 ⟨aT7,aPf,aRE,aPZ,trivial⟩ Tryz.func29 fun z r _ h=>⟨0,.trans (by kernel_rfl) h⟩
theorem aPp:FOk Tryz.prog 36 abytesS:=fk (cx [(29,acheckS),(77,idecodeS)] [] 28 [2,5]) A0 ⟨aPo,aWW,trivial⟩ Tryz.func36 fun z r _ h=>⟨0,.trans (by kernel_rfl) h⟩
theorem aK0:FOk Tryz.prog 18 r14costS:=fk (cx [(45,r5fieldsS),(46,r8targetsS)] [] 53 [2,3]) ⟨[(8,(4,[.val 5 ((.int .i64)) false,.val 7 ((.int .i64)) false]))],[],[(10,[[],[],[0,1],[0,1,2],[0,1],[0,1],[],[],[],[0,1,2,3,4,5,6,7,8],[]]),(11,[[],[],[0,1],[0,1,2],[0,1],[0,1],[],[],[],[]])],[]⟩ ⟨aDl,aKs,trivial⟩ Tryz.func18 fun z r _ h=>(aTM z.1 z.2.1 r h).elim fun k hk=>⟨k,.trans (by kernel_rfl) hk⟩
theorem aST:FOk Tryz.prog 33 r8sameS:=fk (cx [(60,rtypesS)] [] 75 []) ⟨[(4,(9,[.val 5 ((.int .i64)) false])),(9,(4,[.val 6 ((.int .i64)) false]))],[],[(6,[[],[0],[],[],[],[0,1,2,3,4],[0,1,2,3,4,5],[0,1,2,3,4],[0,1,2,3,4],[0,1,2,3,4],[]]),(11,[[],[0],[],[],[0,1,2,3],[],[],[],[0,1,2,3,4,5,6,7],[0,1,2,3,4,5,6,7,8],[0,1,2,3,4,5,6,7],[0,1,2,3,4,5,6,7],[0,1,2,3,4,5,6,7,8,9,10,11],[0,1,2,3,4,5,6,7],[0,1,2,3,4,5,6,7],[0,1,2,3,4,5,6,7],[],[],[],[18],[],[],[18,19,20,21],[],[],[],[18,19,20,21,22,23,24,25],[18,19,20,21,22,23,24,25,26],[18,19,20,21,22,23,24,25],[18,19,20,21,22,23,24,25],[18,19,20,21,22,23,24,25,26,27,28,29],[18,19,20,21,22,23,24,25],[18,19,20,21,22,23,24,25],[18,19,20,21,22,23,24,25],[],[],[]])],[]⟩ ⟨aCR,trivial⟩ Tryz.func33 fun z r _ h=>(aSS z.1 z.2.1 r h).elim fun k hk=>⟨k,.trans (by kernel_rfl) hk⟩
theorem bAi:FOk Tryz.prog 28 awake16S:=fk (cx [(18,r14costS),(26,r8edgesS),(29,acheckS),(31,aneedsS),(34,r5fitsS),(36,abytesS)] [] 92 [1,9]) ⟨[],[],[(7,[[],[],[],[],[],[],[],[],[],[],[],[],[],[],[],[],[],[],[],[],[],[],[],[],[],[],[],[],[],[],[],[],[],[],[],[],[],[],[],[38],[38],[38],[38],[38],[38],[38],[],[],[],[]])],[]⟩ ⟨aK0,aKy,aPo,aPf,aF0,aPp,trivial⟩ Tryz.func28 fun z r _ h=>⟨0,.trans (by kernel_rfl) h⟩
theorem aRh:FOk Tryz.prog 27 small16S:=fk (cx [] [] 53 [1,4]) ⟨[(4,(5,[.val 3 ((.int .i64)) false]))],[],[],[]⟩ trivial Tryz.func27 fun z r hl h=>(aRg z.1 hl).elim fun k hk=>⟨k,.trans (by kernel_rfl) (hk.trans h)⟩
theorem aS2:FOk Tryz.prog 65 r8boundS:=fk {cx [(25,r8waysS),(26,r8edgesS),(121,r8frameS)] [] 150 [2,48] with rows:=[48] } ⟨[(5,(4,[.val 9 ((.int .i64)) false])),(11,(21,[.val 11 ((.int .i64)) false,.row 48 3 ((.int .i64))])),(14,(18,[.val 12 ((.int .i64)) false,.row 48 3 ((.int .i64))])),(18,(13,[.val 13 ((.int .i64)) false,.val 14 ((.int .i64)) false,.val 15 ((.int .i64)) false])),(26,(5,[.val 14 ((.int .i64)) false,.val 17 ((.int .i64)) false]))],[(20,(11,[.val 13 ((.int .i64)) false,.val 14 ((.int .i64)) false])),(20,(1,[.val 85 (.bool) false])),(22,(2,[.val 16 ((.int .i64)) false]))],[],[]⟩ ⟨aSM,aKy,aSX,trivial⟩ Tryz.func65 fun z r _ h=>(aS1 z.1 z.2.1 r h).elim fun k hk=>⟨k,.trans (by kernel_rfl) hk⟩
theorem aTJ:FOk Tryz.prog 16 r14potsS:=fk (cx [(18,r14costS),(21,r8stepS)] [] 93 [2,6]) ⟨[(2,(15,[.val 5 ((.int .i64)) false])),(8,(9,[.val 7 ((.int .i64)) false])),(13,(4,[.val 11 ((.int .i64)) false]))],[],[(5,[[],[],[],[],[0,1,2,3],[0,1,2,3],[]]),(11,[[],[0],[0,1],[0,1,2],[0,1,2,3],[0,1,2],[0,1,2],[0,1,2,3,4,5,6],[0,1,2],[0,1,2],[0,1,2],[],[],[],[13],[13,14],[14,15],[15],[]]),(15,[[],[],[0,1],[],[],[0,1,2,3,4],[0,1,2,3,4,5],[0,1,2,3,4,5],[0,1,2,3,4,5,6,7],[0,1,2,3,4,5],[0,1,2,3,4,5],[0,1,2,3,4],[0,1,2,3,4,5,6,7,8,9,10,11],[0,1,2,3,4,5,6,7,8,9,10,11],[0,1,2,3,4,5,6,7,8,9,10,11,12,13],[0,1,2,3,4,5,6,7,8,9,10,11,12,13,14],[0,1,2,3,4,5,6,7,8,9,10,11,12,13],[0,1,2,3,4,5,6,7,8,9,10,11,12,13],[0,1,2,3,4,5,6,7,8,9,10,11],[0,1,2,3,4,5,6,7,8,9,10,11],[0,1,2,3,4],[]])],[(11,[0,1,2,3,4,5,6,7,8,9,10,11,12,13,15,17,14,16,18])]⟩ ⟨aK0,aKu,trivial⟩ Tryz.func16 fun z r _ h=>(aTI z.1 z.2.1 r h).elim fun k hk=>⟨k,.trans (by kernel_rfl) hk⟩
theorem aTL:FOk Tryz.prog 32 r14needsS:=fk (cx [(65,r8boundS)] [] 63 [2]) ⟨[(6,(7,[.val 9 ((.int .i64)) false,.val 10 ((.int .i64)) false,.val 11 ((.int .i64)) false]))],[(9,(2,[.val 9 ((.int .i64)) false]))],[(13,[[],[0],[0],[0],[0,1,2,3],[0],[1,2,3,4,5],[],[]])],[(13,[0,1,2,3,5,6,4,7,8])]⟩ ⟨aS2,trivial⟩ Tryz.func32 fun z r _ h=>(aTK z.1 z.2.1 r h).elim fun k hk=>⟨k,.trans (by kernel_rfl) hk⟩
theorem aTN:FOk Tryz.prog 30 r14admitS:=fk (cx [(16,r14potsS),(32,r14needsS),(38,r8allS),(39,r5saneS)] [] 46 [1]) A0 ⟨aTJ,aTL,aS4,aTe,trivial⟩ Tryz.func30 fun z r _ h=>⟨0,.trans (by kernel_rfl) h⟩
theorem aTD:FOk Tryz.prog 35 r5encodeOS:=fk {cx [(71,rbytesS),(72,r5severalS),(73,r5numsS),(74,rsignedS),(75,r5oneS),(76,rargsS)] [23,33,42,51,56,69,77,95,108,121,138,155,164,177] 190 [1,2,9,10,15,3,32,41,50,55,61,76,82,7,99,103,107,113,129,146,163,168,172,176,181,185,189] with rows:=[2,3,9,10,15,32,41,50,55,61,76,82,99,103,107,113,129,146,163,168,172,176,181,185,189] } ⟨[(3,(5,[.own 3 5 ((.int .u8)),.val 4 ((.int .i64)) false])),(11,(3,[.own 3 5 ((.int .u8)),.val 5 ((.int .i64)) false])),(16,(14,[.own 3 5 ((.int .u8)),.val 6 ((.int .i64)) false])),(22,(7,[.own 3 5 ((.int .u8)),.val 8 ((.int .i64)) false]))],[(25,(2,[.own 3 5 ((.int .u8))]))],[(19,[[],[0],[0],[0],[],[0,1,2,3,4],[0,1,2,3,4],[],[],[0,1,2,3,4,5,6,7,8],[0,1,2,3,4,5,6,7,8],[],[],[]]),(29,[[],[0],[0],[0],[],[0,1,2,3,4],[0,1,2,3,4],[],[],[0,1,2,3,4,5,6,7,8],[0,1,2,3,4,5,6,7,8],[],[],[]]),(30,[[],[0],[0],[0],[],[0,1,2,3,4],[0,1,2,3,4],[],[],[0,1,2,3,4,5,6,7,8],[0,1,2,3,4,5,6,7,8],[],[],[]])],[]⟩ ⟨aBf,aTc,aTl,aR9,aKL,aKl,trivial⟩ Tryz.func35 fun z r _ h=>(aTC z.1 r h).elim fun k hk=>⟨k,.trans (by kernel_rfl) hk⟩
theorem bAA (hl:∀z,aAG Tryz.prog aEW z→aIf z.1 z.2.1 z.2.2.1=some (true,())):FOk Tryz.prog 9 admitBytesS:=fk {cx [(24,r5sameS),(27,small16S),(28,awake16S),(30,r14admitS),(33,r8sameS),(34,r5fitsS),(35,r5encodeOS),(36,abytesS)] [] 109 [4,24,7,79,103] with thaws:=[79,103,1000046] } ⟨[],[],[(9,[[],[],[],[],[],[],[],[],[7],[],[],[],[],[],[],[],[],[],[],[],[],[],[],[],[],[],[],[],[25,26,27],[25,26,27],[],[],[],[]]),(11,[[],[],[],[],[],[],[],[6],[],[],[],[],[],[],[11,12,13],[11,12,13],[],[],[]])],[]⟩ ⟨aTh,aRh,bAi,aTN,aST,aF0,aTD,aPp,trivial⟩ Tryz.func9 fun z r _ h=>by
 by_cases hw:aAG Tryz.prog aEW z
 ·exact⟨0,.trans (by kernel_rfl) ((hl z hw).trans ((if_pos hw).symm.trans h))⟩
 ·have hn:admitBytesS.run z=none:=if_neg hw;rw[hn] at h;cases h
end
end Go.Pli
