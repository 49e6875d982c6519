import Derived.Test.YtcofionghgmldaaGreatPliTy
import Derived.Test.YtcofionghgmldaaGreatPMSort
import Derived.Test.YtcofionghgmldaaGreatPliReach
import Derived.Test.YtcofionghgmldaaGreatPliLib13
import Derived.Test.YtcofionghgmldaaGreatPMKit
import Derived.Test.YtcofionghgmldaaGreatPMSaid
import Derived.Test.YtcofionghgmldaaGreatProg
import Derived.KernelRfl
namespace Go.Pli
open Go Go.PM
open Go.Proofs
abbrev cI:Ty:= .pair (.int .i64) (.pair (.int .i64) .unit)
abbrev aJ:Ty:= .sl 39 cI
abbrev fQ:Ty:= .sl 21 (.int .i32)
abbrev aL:Ty:= .sl 3 (.int .i64)
abbrev jL:Ty:= .pair (.int .i64) cI
abbrev eV:Ty:= .sl 45 jL
abbrev gC:Ty:= .sl 5 (.int .u8)
abbrev aH8:Ty:= .pair (.int .i64) (.pair aJ (.pair aL .unit))
abbrev dM:Ty:= .sl 106 aH8
abbrev kJ:Ty:= .pair aJ (.pair aJ (.pair cI (.pair eV (.pair (.int .i64) (.pair (.int .i64) (.pair aL .unit))))))
abbrev gQ:Ty:= .sl 42 kJ
abbrev eI:Ty:= .sl 26 aL
abbrev oV:Ty:= .pair .bool (.pair aJ .unit)
abbrev zQ:Ty:= .sl 52 oV
abbrev bW:Ty:= .sl 53 zQ
abbrev aIl:Ty:= .pair aL (.pair (.int .i64) .unit)
abbrev oH:Ty:= .sl 49 aIl
abbrev bD:Ty:= .pair dM (.pair aJ (.pair fQ (.pair gQ (.pair aL cI))))
abbrev xQ:Ty:= .sl 23 aJ
abbrev aGl:Ty:= .sl 4 .bool
abbrev aE8:Ty:= .sl 66 aGl
abbrev aPY:Ty:= .sl 188 cI
def A0:Ann:=⟨[],[],[],[]⟩
def TY:List (TypeId×Ty):=[(3,(.int .i64)),(4,.bool),(5,(.int .u8)),(9,.str),(21,(.int .i32)),(22,dM),(23,aJ),(24,fQ),(25,gQ),(26,aL),(28,bD),(29,bW),(39,cI),(40,eV),(42,kJ),(45,jL),(46,oH),(49,aIl),(52,oV),(53,zQ),(62,aE8),(64,eI),(66,aGl),(74,gC),(95,.any),(106,aH8),(130,(.pair (.int .i64) (.pair .bool .unit))),(141,(.pair aJ (.pair aJ .unit))),(155,(.pair eI (.pair aL (.pair aL (.pair aGl (.pair aL (.pair (.int .i64) (.pair eI .unit)))))))),(172,(.int .u64)),(178,xQ),(188,cI),(189,aPY),(204,(.pair gC (.pair .bool .unit))),(208,(.int .u32))]
theorem aVN:aQR Tryz.prog TY=true:=by kernel_rfl
def cx (fns:List (FuncId×FSpec)) (tips:List Nat) (n:Nat) (bxs:List Nat):Ctx:={ty:=TY,fns:=fns,tips:=tips,n:=n,bxs:=bxs,ptrs:=[] }
theorem fk (G:Ctx) {f:FuncId} {fn:Func} (A:Ann) {S:FSpec} (h3:FnsOk Tryz.prog G.fns) (hf:Tryz.prog.funcs[f]? =some fn) (h:∀z r,aEV S.ps z→S.run z=some r→∃k,aIa G A k fn S.ps S.rs z=some r) (h1:G.ty=TY:=by rfl) (h2:G.ptrs.all (aQO Tryz.prog)=true:=by kernel_rfl) (hb:fn.body.isSome=true:=by kernel_rfl) (hn:(fn.name=="runtime.NumGoroutine")=false:=by kernel_rfl) (h4:G.sets.all (aSK Tryz.prog)=true:=by rfl):FOk Tryz.prog f S:=fok (aVC (by rw[h1];exact aVN) h2 h3 h4) hf hb hn h
noncomputable section
def indexClassS:FSpec:=⟨[.val (dM),.val ((.clo 158 .unit))],[.val ((.int .i64))],fun z=>some (sW z.1 z.2.1,())⟩
def containsClassS:FSpec:=⟨[.val (dM),.val ((.clo 158 .unit))],[.val (.bool)],fun z=>some (lF z.1 z.2.1,())⟩
def indexMethodS:FSpec:=⟨[.val (gQ),.val ((.clo 161 .unit))],[.val ((.int .i64))],fun z=>some (rC z.1 z.2.1,())⟩
def containsMethodS:FSpec:=⟨[.val (gQ),.val ((.clo 161 .unit))],[.val (.bool)],fun z=>some (kB z.1 z.2.1,())⟩
def indexTypesS:FSpec:=⟨[.val (aJ),.val ((.clo 196 .unit))],[.val ((.int .i64))],fun z=>some (sQ z.1 z.2.1,())⟩
def containsTypesS:FSpec:=⟨[.val (aJ),.val ((.clo 196 .unit))],[.val (.bool)],fun z=>some (lC z.1 z.2.1,())⟩
def indexEntryS:FSpec:=⟨[.val (aJ),.val ((.clo 174 (.pair (.clo 172 .unit) .unit)))],[.val ((.int .i64))],fun z=>some (sX z.1 z.2.1,())⟩
def containsEntryS:FSpec:=⟨[.val (aJ),.val ((.clo 174 (.pair (.clo 172 .unit) .unit)))],[.val (.bool)],fun z=>some (iZ z.1 z.2.1,())⟩
def indexNumsS:FSpec:=⟨[.val (aL),.val ((.clo 201 (.pair (.int .i64) .unit)))],[.val ((.int .i64))],fun z=>some (wH z.1 z.2.1,())⟩
def containsNumsS:FSpec:=⟨[.val (aL),.val ((.clo 201 (.pair (.int .i64) .unit)))],[.val (.bool)],fun z=>some (mH z.1 z.2.1,())⟩
def newS:FSpec:=⟨[.val (gC)],[.box 204 ((.pair gC (.pair .bool .unit)))],fun z=>some (aMQ z.1,())⟩
def nextS:FSpec:=⟨[.box 204 ((.pair gC (.pair .bool .unit)))],[.val ((.int .u64)),.val (.bool)],fun z=>next z.1⟩
def getS:FSpec:=⟨[.box 204 ((.pair gC (.pair .bool .unit))),.val ((.int .i64))],[.val ((.int .i64))],fun z=>dE z.1 z.2.1⟩
def glongS:FSpec:=⟨[.box 204 ((.pair gC (.pair .bool .unit)))],[.val ((.int .i32))],fun z=>xU z.1⟩
def finS:FSpec:=⟨[.box 204 ((.pair gC (.pair .bool .unit)))],[.val (.bool)],fun z=>aOg z.1⟩
def rinS:FSpec:=⟨[.val (aL),.val ((.int .i64))],[.val (.bool)],fun z=>rin z.1 z.2.1⟩
def rargsS:FSpec:=⟨[.val ((.int .i64))],[.val ((.int .i64))],fun z=>some (wI z.1,())⟩
def iargsS:FSpec:=⟨[.val ((.int .i64))],[.val ((.int .i64))],fun z=>some (cR z.1,())⟩
def withinS:FSpec:=⟨[.val ((.int .i64)),.val ((.int .i64)),.val ((.int .i64))],[.val (.bool)],fun z=>some (kV z.1 z.2.1 z.2.2.1,())⟩
def igoodS:FSpec:=⟨[.val (jL)],[.val (.bool)],fun z=>some (dQ z.1,())⟩
def igetS:FSpec:=⟨[.box 204 ((.pair gC (.pair .bool .unit)))],[.val (jL)],fun z=>aIj z.1⟩
def rinstrS:FSpec:=⟨[.val (jL)],[.val (.bool)],fun z=>some (aCf z.1,())⟩
def clipCS:FSpec:=⟨[.val (dM)],[.val (dM)],fun z=>some (idL z.1,())⟩
def clipMS:FSpec:=⟨[.val (gQ)],[.val (gQ)],fun z=>some (idL z.1,())⟩
def clipTS:FSpec:=⟨[.val (aJ)],[.val (aJ)],fun z=>some (idL z.1,())⟩
def clipIS:FSpec:=⟨[.val (aL)],[.val (aL)],fun z=>some (idL z.1,())⟩
def clipXS:FSpec:=⟨[.val (eV)],[.val (eV)],fun z=>some (idL z.1,())⟩
def clipJS:FSpec:=⟨[.val (fQ)],[.val (fQ)],fun z=>some (idL z.1,())⟩
def cloneTS:FSpec:=⟨[.val (aJ)],[.val (aJ)],fun z=>qO z.1⟩
def cloneJS:FSpec:=⟨[.val (fQ)],[.val (fQ)],fun z=>aC1 z.1⟩
def cloneIS:FSpec:=⟨[.val (aL)],[.val (aL)],fun z=>aCL z.1⟩
def cloneXS:FSpec:=⟨[.val (eV)],[.val (eV)],fun z=>aCz z.1⟩
def anTS:FSpec:=⟨[.val (aJ)],[.val (aJ)],fun z=>aDP z.1⟩
def anJS:FSpec:=⟨[.val (fQ)],[.val (fQ)],fun z=>aMX z.1⟩
def anIS:FSpec:=⟨[.val (aL)],[.val (aL)],fun z=>aGe z.1⟩
def anXS:FSpec:=⟨[.val (eV)],[.val (eV)],fun z=>aMU z.1⟩
def eqTS:FSpec:=⟨[.val (aJ),.val (aJ)],[.val (.bool)],fun z=>some (eqL z.1 z.2.1,())⟩
def iwithinS:FSpec:=⟨[.val ((.int .i64)),.val ((.int .i64))],[.val (.bool)],fun z=>some (aR z.1 z.2.1,())⟩
def itypS:FSpec:=⟨[.val (cI)],[.val (.bool)],fun z=>some (ityp z.1,())⟩
def ityp1S:FSpec:=⟨[.val (cI)],[.val (.bool)],fun z=>some (aCV z.1,())⟩
def itypesS:FSpec:=⟨[.val (aJ),.val ((.int .i64))],[.val (.bool)],fun z=>some (cQ z.1 z.2.1,())⟩
def inum1S:FSpec:=⟨[.val ((.int .i64)),.cap ((.int .i64))],[.val (.bool)],fun z=>some (aAI z.1 z.2.1,())⟩
def inumsS:FSpec:=⟨[.val (aL),.val ((.int .i64)),.val ((.int .i64))],[.val (.bool)],fun z=>some (eO z.1 z.2.1 z.2.2.1,())⟩
def imethodS:FSpec:=⟨[.val (kJ)],[.val (.bool)],fun z=>some (imethod z.1,())⟩
def iclassS:FSpec:=⟨[.val (aH8)],[.val (.bool)],fun z=>some (iclass z.1,())⟩
def ifits1S:FSpec:=⟨[.val (aH8)],[.val (.bool)],fun z=>some (yX z.1,())⟩
def ifits2S:FSpec:=⟨[.val (kJ)],[.val (.bool)],fun z=>some (xV z.1,())⟩
def ifitsS:FSpec:=⟨[.val (bD)],[.val (.bool)],fun z=>some (bC z.1,())⟩
def getTypeS:FSpec:=⟨[.box 204 ((.pair gC (.pair .bool .unit)))],[.val (cI)],fun z=>oQ z.1⟩
def getTypesS:FSpec:=⟨[.box 204 ((.pair gC (.pair .bool .unit))),.val ((.int .i64))],[.val (aJ)],fun z=>fD z.1 z.2.1⟩
def getNumsS:FSpec:=⟨[.box 204 ((.pair gC (.pair .bool .unit))),.val ((.int .i64)),.val ((.int .i64))],[.val (aL)],fun z=>iK z.1 z.2.1 z.2.2.1⟩
def getMethodS:FSpec:=⟨[.box 204 ((.pair gC (.pair .bool .unit)))],[.val (kJ)],fun z=>jJ z.1⟩
def idecodeS:FSpec:=⟨[.val (gC)],[.val (bD),.val ((.int .i64))],fun z=>tV z.1⟩
def icopyS:FSpec:=⟨[.val (bD)],[.val (bD)],fun z=>aFw z.1⟩
def kgoodS:FSpec:=⟨[.val (cI),.val ((.int .i64))],[.val (.bool)],fun z=>some (dY z.1 z.2.1,())⟩
def kisrefS:FSpec:=⟨[.val (cI)],[.val (.bool)],fun z=>some (gW z.1,())⟩
def kupS:FSpec:=⟨[.val (dM),.val ((.int .i64))],[.val ((.int .i64))],fun z=>some (kup z.1 z.2.1,())⟩
def kbelowS:FSpec:=⟨[.val (dM),.val ((.int .i64)),.val ((.int .i64))],[.val (.bool)],fun z=>some (bZ z.1 z.2.1 z.2.2.1,())⟩
def ksubS:FSpec:=⟨[.val (dM),.val (cI),.val (cI)],[.val (.bool)],fun z=>some (cP z.1 z.2.1 z.2.2.1,())⟩
def raboveS:FSpec:=⟨[.val (dM),.val ((.int .i64))],[.val (aL)],fun z=>jC z.1 z.2.1⟩
def risrefS:FSpec:=⟨[.val (cI)],[.val (.bool)],fun z=>some (vK z.1,())⟩
def rgoodS:FSpec:=⟨[.val (cI),.val ((.int .i64))],[.val (.bool)],fun z=>some (aAL z.1 z.2.1,())⟩
def rsubS:FSpec:=⟨[.val (dM),.val (cI),.val (cI)],[.val (.bool)],fun z=>uB z.1 z.2.1 z.2.2.1⟩
def rtypesS:FSpec:=⟨[.val (aJ),.val (aJ)],[.val (.bool)],fun z=>some (yY z.1 z.2.1,())⟩
def r5inS:FSpec:=⟨[.val ((.int .i64)),.val ((.int .i64)),.val ((.int .i64))],[.val (.bool)],fun z=>some (nD z.1 z.2.1 z.2.2.1,())⟩
def r5listS:FSpec:=⟨[.val (aL),.val ((.int .i64)),.val ((.int .i64))],[.val (.bool)],fun z=>some (pG z.1 z.2.1 z.2.2.1,())⟩
def r5typS:FSpec:=⟨[.val (cI)],[.val (.bool)],fun z=>some (wV z.1,())⟩
def r5typesS:FSpec:=⟨[.val (aJ),.val ((.int .i64))],[.val (.bool)],fun z=>some (kA z.1 z.2.1,())⟩
def r5fitsS:FSpec:=⟨[.val (bD)],[.val (.bool)],fun z=>some (rV z.1,())⟩
def r5fieldsS:FSpec:=⟨[.val (bD),.val ((.int .i64))],[.tip (aJ)],fun z=>eU z.1 z.2.1⟩
def r5goodS:FSpec:=⟨[.val (bD),.val (aJ)],[.val (.bool)],fun z=>some (nP z.1 z.2.1,())⟩
def r5classS:FSpec:=⟨[.val (bD),.val ((.int .i64))],[.val (.bool)],fun z=>tL z.1 z.2.1⟩
def r5namedS:FSpec:=⟨[.val (bD),.val (kJ),.val (jL)],[.val (.bool)],fun z=>tZ z.1 z.2.1 z.2.2.1⟩
def r5methodS:FSpec:=⟨[.val (bD),.val (kJ)],[.val (.bool)],fun z=>qK z.1 z.2.1⟩
def r5saneS:FSpec:=⟨[.val (bD)],[.val ((.int .i64))],fun z=>some (sC z.1,())⟩
def sinS:FSpec:=⟨[.val ((.int .i64)),.val ((.int .i64))],[.val (.bool)],fun z=>some (sin z.1 z.2.1,())⟩
def sallS:FSpec:=⟨[.val (bD),.val (xQ)],[.val (.bool)],fun z=>some (oE z.1 z.2.1,())⟩
def saboveS:FSpec:=⟨[.val (bD),.val ((.int .i64))],[.val ((.int .i64)),.val (aL)],fun z=>pN z.1 z.2.1⟩
def sfitsS:FSpec:=⟨[.val (bD),.val ((.int .i64)),.val ((.int .i64))],[.val (.bool)],fun z=>aCN z.1 z.2.1 z.2.2.1⟩
def salikeS:FSpec:=⟨[.val (kJ),.val (kJ)],[.val (.bool)],fun z=>some (aB2 z.1 z.2.1,())⟩
def sclassS:FSpec:=⟨[.val (bD),.val ((.int .i64))],[.val (.bool)],fun z=>rW z.1 z.2.1⟩
def sfieldsS:FSpec:=⟨[.val ((.int .i64)),.cap (bD)],[.val ((.int .i64))],fun z=>qR z.1 z.2.1⟩
def sinstrS:FSpec:=⟨[.val (bD),.val (kJ),.val (jL),.val ((.clo 170 (.pair bD .unit)))],[.val (.bool)],fun z=>zD z.1 z.2.1 z.2.2.1 z.2.2.2.1⟩
def smethodS:FSpec:=⟨[.val (bD),.val (kJ)],[.val (.bool)],fun z=>tW z.1 z.2.1⟩
def sentry1S:FSpec:=⟨[.val (cI)],[.val (.bool)],fun z=>some (sentry1 z.1,())⟩
def sentry2S:FSpec:=⟨[.val (cI),.cap ((.clo 172 .unit))],[.val (.bool)],fun z=>some (tT z.1 z.2.1,())⟩
def sentryS:FSpec:=⟨[.val (bD),.val ((.int .i64))],[.val (.bool)],fun z=>aFi z.1 z.2.1⟩
def scheckS:FSpec:=⟨[.val (bD)],[.val ((.int .i64))],fun z=>some (dS z.1,())⟩
def sortIS:FSpec:=⟨[.own 3 ((.int .i64))],[],fun z=>some (aFo z.1)⟩
def compactIS:FSpec:=⟨[.take 3 ((.int .i64))],[.own 3 ((.int .i64))],fun z=>some (bM z.1,())⟩
def cbelowS:FSpec:=⟨[.val (bD),.val ((.int .i64))],[.val (aL)],fun z=>yS z.1 z.2.1⟩
def cslotS:FSpec:=⟨[.val (bD),.val ((.int .i64)),.val ((.int .i64))],[.val ((.int .i64)),.val (.bool)],fun z=>some (dK z.1 z.2.1 z.2.2.1)⟩
def ctargetsS:FSpec:=⟨[.val (bD),.val (jL)],[.tip (aL)],fun z=>kK z.1 z.2.1⟩
def cofS:FSpec:=⟨[.val (bD),.val ((.int .i64))],[.val (aL)],fun z=>cof z.1 z.2.1⟩
def r5belowS:FSpec:=⟨[.val (bD),.val ((.int .i64))],[.tip (aL)],fun z=>tU z.1 z.2.1⟩
def r5slotS:FSpec:=⟨[.val (bD),.val ((.int .i64)),.val ((.int .i64))],[.val ((.int .i64)),.val (.bool)],fun z=>some (aB9 z.1 z.2.1 z.2.2.1)⟩
def r8targetsS:FSpec:=⟨[.val (bD),.val (jL)],[.tip (aL)],fun z=>jE z.1 z.2.1⟩
def r8callsS:FSpec:=⟨[.val (bD),.val ((.int .i64)),.val ((.int .i64))],[.val (.bool)],fun z=>tX z.1 z.2.1 z.2.2.1⟩
def r8edgesS:FSpec:=⟨[.val (bD)],[.val (eI)],fun z=>qT z.1⟩
def r8waysS:FSpec:=⟨[.val (eI)],[.val (aE8)],fun z=>yZ z.1⟩
def fenterS:FSpec:=⟨[.box 155 ((.pair eI (.pair (.osl 3 (.int .i64)) (.pair (.osl 3 (.int .i64)) (.pair (.osl 4 .bool) (.pair (.osl 3 (.int .i64)) (.pair (.int .i64) (.pair (.osl 26 aL) .unit)))))))),.val ((.int .i64))],[],fun z=>tK z.1 z.2.1⟩
def fleaveS:FSpec:=⟨[.box 155 ((.pair eI (.pair (.osl 3 (.int .i64)) (.pair (.osl 3 (.int .i64)) (.pair (.osl 4 .bool) (.pair (.osl 3 (.int .i64)) (.pair (.int .i64) (.pair (.osl 26 aL) .unit)))))))),.val ((.int .i64))],[],fun z=>xZ z.1 z.2.1⟩
def ffromS:FSpec:=⟨[.box 155 ((.pair eI (.pair (.osl 3 (.int .i64)) (.pair (.osl 3 (.int .i64)) (.pair (.osl 4 .bool) (.pair (.osl 3 (.int .i64)) (.pair (.int .i64) (.pair (.osl 26 aL) .unit)))))))),.val ((.int .i64))],[],fun z=>aCB z.1 z.2.1⟩
def clipIOS:FSpec:=⟨[.take 3 ((.int .i64))],[.own 3 ((.int .i64))],fun z=>some (idL z.1,())⟩
def clipIIOS:FSpec:=⟨[.take 26 (aL)],[.own 26 (aL)],fun z=>some (idL z.1,())⟩
def ringsS:FSpec:=⟨[.val (eI)],[.val (eI)],fun z=>nT z.1⟩
def r5localS:FSpec:=⟨[.val (kJ),.val ((.int .i64))],[.val (cI)],fun z=>uE z.1 z.2.1⟩
def rjoinS:FSpec:=⟨[.val (dM),.val (cI),.val (cI)],[.val (cI)],fun z=>aCw z.1 z.2.1 z.2.2.1⟩
def r8givesS:FSpec:=⟨[.val (kJ)],[.val (aJ)],fun z=>pY z.1⟩
def r8ruleS:FSpec:=⟨[.val (bD),.val ((.int .i64)),.val (jL)],[.val (aJ),.val (aJ)],fun z=>zB z.1 z.2.1 z.2.2.1⟩
def r8stepS:FSpec:=⟨[.val (bD),.val ((.int .i64)),.val ((.int .i64)),.val (aJ)],[.val (aJ),.val (aL),.val ((.int .i64))],fun z=>oS z.1 z.2.1 z.2.2.1 z.2.2.2.1⟩
def r8shapesS:FSpec:=⟨[.val (bD),.val ((.int .i64))],[.val (zQ),.val (.bool)],fun z=>pQ z.1 z.2.1⟩
def r8allS:FSpec:=⟨[.val (bD)],[.val (bW),.val ((.int .i64))],fun z=>qX z.1⟩
def r8frameS:FSpec:=⟨[.val (bD),.val (bW),.val ((.int .i64))],[.val ((.int .i64))],fun z=>tP z.1 z.2.1 z.2.2.1⟩
def tdeepS:FSpec:=⟨[.val (bW),.val ((.int .i64))],[.val ((.int .i64))],fun z=>aCv z.1 z.2.1⟩
def dframeS:FSpec:=⟨[.val (bD),.val (bW),.val ((.int .i64))],[.val ((.int .i64))],fun z=>aC2 z.1 z.2.1 z.2.2.1⟩
def growTS:FSpec:=⟨[.nilp true,.val ((.int .i64))],[.own 39 (cI)],fun z=>aCy z.1 z.2.1⟩
def concatTS:FSpec:=⟨[.val (xQ)],[.val (aJ)],fun z=>lM z.1⟩
def indexIS:FSpec:=⟨[.val (aL),.val ((.int .i64))],[.val ((.int .i64))],fun z=>some (aEQ z.1 z.2.1,())⟩
def containsIS:FSpec:=⟨[.val (aL),.val ((.int .i64))],[.val (.bool)],fun z=>some (kF z.1 z.2.1,())⟩
def clipQS:FSpec:=⟨[.val (oH)],[.val (oH)],fun z=>some (idL z.1,())⟩
def clipSSS:FSpec:=⟨[.val (bW)],[.val (bW)],fun z=>some (idL z.1,())⟩
def cupS:FSpec:=⟨[.val (bD),.val ((.int .i64))],[.val ((.int .i64))],fun z=>cup z.1 z.2.1⟩
def cfieldsS:FSpec:=⟨[.val (bD),.val ((.int .i64))],[.val (aJ)],fun z=>mM z.1 z.2.1⟩
def csizeS:FSpec:=⟨[.val (bD),.val ((.int .i64))],[.val ((.int .i64))],fun z=>aCI z.1 z.2.1⟩
def clocalS:FSpec:=⟨[.val (kJ),.val ((.int .i64))],[.val (cI)],fun z=>uD z.1 z.2.1⟩
def kjoinS:FSpec:=⟨[.val (dM),.val (cI),.val (cI)],[.val (cI)],fun z=>aAw z.1 z.2.1 z.2.2.1⟩
def numIsS:FSpec:=⟨[.val ((.int .i64))],[.val (.bool)],fun z=>some (oX z.1,())⟩
def fnumberS:FSpec:=⟨[],[.val (cI)],fun _=>some (eQ,())⟩
def farrayS:FSpec:=⟨[],[.val (cI)],fun _=>some (tS,())⟩
def fobjectS:FSpec:=⟨[.val ((.int .i64))],[.val (cI)],fun z=>some (iQ z.1,())⟩
def fplain1S:FSpec:=⟨[.val (aJ)],[.val (aJ)],fun z=>some (dL z.1,())⟩
def fof1S:FSpec:=⟨[.val (cI)],[.val (aJ)],fun z=>some (gD z.1,())⟩
def fcalledS:FSpec:=⟨[.val (kJ),.val (aJ)],[.val ((.pair aJ (.pair aJ .unit)))],fun z=>pV z.1 z.2.1⟩
def fplainS:FSpec:=⟨[.val ((.int .i64))],[.val ((.pair aJ (.pair aJ .unit))),.val (.bool)],fun z=>some (dP z.1)⟩
def fofS:FSpec:=⟨[.val (bD),.val (jL),.val ((.int .i64))],[.val ((.pair aJ (.pair aJ .unit)))],fun z=>fof z.1 z.2.1 z.2.2.1⟩
def ffitsS:FSpec:=⟨[.val (bD),.val ((.int .i64)),.val (cI),.val (cI)],[.val (.bool)],fun z=>some (dT z.1 z.2.1 z.2.2.1 z.2.2.2.1,())⟩
def fnextsS:FSpec:=⟨[.val (jL),.val ((.int .i64))],[.val (aL)],fun z=>some (cV z.1 z.2.1,())⟩
def fstepS:FSpec:=⟨[.val (bD),.val ((.int .i64)),.val ((.int .i64)),.val (aJ)],[.val (aJ),.val (aL),.val ((.int .i64))],fun z=>sY z.1 z.2.1 z.2.2.1 z.2.2.2.1⟩
def tmergeS:FSpec:=⟨[.val (bD),.val (oV),.val (aJ)],[.val (oV),.val (.bool),.val (.bool)],fun z=>yL z.1 z.2.1 z.2.2.1⟩
def toneS:FSpec:=⟨[.val (bD),.val ((.int .i64)),.val ((.int .i64)),.own 52 (oV),.own 4 (.bool)],[.val (.bool)],fun z=>nZ z.1 z.2.1 z.2.2.1 z.2.2.2.1 z.2.2.2.2.1⟩
def tmethodS:FSpec:=⟨[.val (bD),.val ((.int .i64))],[.val (zQ),.val ((.int .i64)),.val ((.int .i64))],fun z=>fZ z.1 z.2.1⟩
def tcheckS:FSpec:=⟨[.val (bD)],[.val (bW),.val ((.int .i64)),.val ((.int .i64)),.val ((.int .i64))],fun z=>iS z.1⟩
def cyc1S:FSpec:=⟨[.val ((.int .i64)),.cap (aL)],[.val (.bool)],fun z=>some (aEi z.1 z.2.1,())⟩
def indexCycS:FSpec:=⟨[.val (aL),.val ((.clo 112 (.pair aL .unit)))],[.val ((.int .i64))],fun z=>some (aAO z.1 z.2.1,())⟩
def containsCycS:FSpec:=⟨[.val (aL),.val ((.clo 112 (.pair aL .unit)))],[.val (.bool)],fun z=>some (nI z.1 z.2.1,())⟩
def cyclicS:FSpec:=⟨[.val (eI),.val (aL)],[.val (.bool)],fun z=>yN z.1 z.2.1⟩
def dboundS:FSpec:=⟨[.val (bD),.val (bW)],[.val (aL),.val ((.int .i64))],fun z=>kX z.1 z.2.1⟩
def mul64S:FSpec:=⟨[.val ((.int .u64)),.val ((.int .u64))],[.val ((.int .u64)),.val ((.int .u64))],fun z=>aCu z.1 z.2.1⟩
def lofS:FSpec:=⟨[.val ((.int .i64))],[.val ((.pair (.int .i64) (.pair .bool .unit)))],fun z=>some (lof z.1,())⟩
def lsizeS:FSpec:=⟨[.val ((.int .i64))],[.val ((.int .u64))],fun z=>some (dO z.1,())⟩
def lplusS:FSpec:=⟨[.val ((.pair (.int .i64) (.pair .bool .unit))),.val ((.pair (.int .i64) (.pair .bool .unit)))],[.val ((.pair (.int .i64) (.pair .bool .unit)))],fun z=>aEN z.1 z.2.1⟩
def ltimesS:FSpec:=⟨[.val ((.pair (.int .i64) (.pair .bool .unit))),.val ((.pair (.int .i64) (.pair .bool .unit)))],[.val ((.pair (.int .i64) (.pair .bool .unit)))],fun z=>aBm z.1 z.2.1⟩
def lholdsS:FSpec:=⟨[.val (aIl),.val (aL)],[.val (.bool),.val ((.int .i64))],fun z=>xT z.1 z.2.1⟩
def pshapeS:FSpec:=⟨[.val (bW),.val ((.int .i64)),.val ((.int .i64))],[.val (oV)],fun z=>yE z.1 z.2.1 z.2.2.1⟩
def pcostS:FSpec:=⟨[.val (bD),.val (jL)],[.val ((.int .i64))],fun z=>aCX z.1 z.2.1⟩
def prowS:FSpec:=⟨[.val ((.int .i64)),.val ((.int .i64)),.val ((.int .i64)),.val ((.int .i64))],[.val (aIl)],fun z=>aB7 z.1 z.2.1 z.2.2.1 z.2.2.2.1⟩
def prulesS:FSpec:=⟨[.val (bD),.val (bW),.val ((.int .i64))],[.val (oH)],fun z=>yH z.1 z.2.1 z.2.2.1⟩
def pnegS:FSpec:=⟨[.val ((.int .i64))],[.val (.bool)],fun z=>some (aSS z.1,())⟩
def indexNegS:FSpec:=⟨[.val (aL),.val ((.clo 42 .unit))],[.val ((.int .i64))],fun z=>some (aAq z.1 z.2.1,())⟩
def containsNegS:FSpec:=⟨[.val (aL),.val ((.clo 42 .unit))],[.val (.bool)],fun z=>some (nG z.1 z.2.1,())⟩
def pcheckS:FSpec:=⟨[.val (bD),.val (bW)],[.val ((.int .i64)),.val ((.int .i64))],fun z=>lR z.1 z.2.1⟩
def aneedsS:FSpec:=⟨[.val (bD),.val (bW)],[.val ((.int .i64)),.val ((.int .i64)),.val ((.int .i64))],fun z=>jB z.1 z.2.1⟩
def acheckS:FSpec:=⟨[.val (bD)],[.val (bW),.val ((.int .i64))],fun z=>dW z.1⟩
def abytesS:FSpec:=⟨[.val (gC)],[.val (bD),.val (bW),.val ((.int .i64))],fun z=>aGA z.1⟩
def r14costS:FSpec:=⟨[.val (bD),.val (jL)],[.val ((.int .i64))],fun z=>qN z.1 z.2.1⟩
def awake16S:FSpec:=⟨[],[.val (.bool)],fun _=>awake16N⟩
def small16S:FSpec:=⟨[.val (bD)],[.val (.bool)],fun z=>some (zC z.1,())⟩
def r8boundS:FSpec:=⟨[.val (bD),.val (bW)],[.val (aL),.val (.bool)],fun z=>mR z.1 z.2.1⟩
def r14potsS:FSpec:=⟨[.val (bD),.val (bW)],[.val ((.int .i64))],fun z=>oL z.1 z.2.1⟩
def r14needsS:FSpec:=⟨[.val (bD),.val (bW)],[.val ((.int .i64)),.val ((.int .i64)),.val (.bool)],fun z=>iR z.1 z.2.1⟩
def r14admitS:FSpec:=⟨[.val (bD)],[.val (bW),.val ((.int .i64))],fun z=>kE z.1⟩
def oU:List Ty:=[bD]
noncomputable def admitQuotasS:FSpec:=⟨[.val (bD)],[.val (.bool)],fun z=>@ite _ (aCU Tryz.prog oU z) (Classical.propDecidable _) (some (true,())) none⟩
theorem aPT:FOk Tryz.prog 106 sortIS:=sort_fok 3 ⟨_,Tryz.func106,by kernel_rfl,by kernel_rfl⟩ Tryz.slices_Sort_int Tryz.slices_Sort_int_none
theorem aPq:FOk Tryz.prog 108 compactIS:=compact_fok 3 ⟨_,Tryz.func108,by kernel_rfl,by kernel_rfl⟩ Tryz.slices_Compact_int Tryz.slices_Compact_int_empty
theorem aAo:FOk Tryz.prog 164 iwithinS:=fk (cx [] [] 12 []) A0 trivial Tryz.func164 fun z r _ h=>⟨0,.trans (by kernel_rfl) ((aNK z.1 z.2.1).trans h)⟩
theorem aS0:FOk Tryz.prog 197 itypS:=fk (cx [(164,iwithinS)] [] 21 [1]) A0 ⟨aAo,trivial⟩ Tryz.func197 fun z r _ h=>⟨0,.trans (by kernel_rfl) ((aTS z.1).trans h)⟩
theorem aUK:FOk Tryz.prog 196 ityp1S:=fk (cx [(197,itypS)] [] 6 [1]) A0 ⟨aS0,trivial⟩ Tryz.func196 fun z r _ h=>⟨0,.trans (by kernel_rfl) ((aSx z.1).trans h)⟩
theorem aKN:FOk Tryz.prog 203 indexTypesS:=fk (cx [(196,ityp1S)] [] 19 []) ⟨[(2,(5,[.val 8 ((.int .i64)) false]))],[],[],[]⟩ ⟨aUK,trivial⟩ Tryz.func203 fun z r hl h=>(aH6 z.1 z.2.1 hl).elim fun k hk=>⟨k,.trans (by kernel_rfl) (hk.trans h)⟩
theorem aGw:FOk Tryz.prog 173 containsTypesS:=fk (cx [(198000203,indexTypesS)] [] 9 []) A0 ⟨aKN,trivial⟩ Tryz.func173 fun z r hl h=>⟨0,.trans (by kernel_rfl) ((aD3 z.1 z.2.1 hl).trans h)⟩
theorem aGC:FOk Tryz.prog 156 itypesS:=fk (cx [(198000173,containsTypesS)] [] 14 []) A0 ⟨aGw,trivial⟩ Tryz.func156 fun z r _ h=>⟨0,.trans (by kernel_rfl) ((aQD z.1 z.2.1).trans h)⟩
theorem aU8:FOk Tryz.prog 201 inum1S:=fk (cx [(164,iwithinS)] [] 8 []) A0 ⟨aAo,trivial⟩ Tryz.func201 fun z r _ h=>⟨0,.trans (by kernel_rfl) ((aRH z.1 z.2.1).trans h)⟩
theorem aNk:FOk Tryz.prog 85 indexNumsS:=fk (cx [(201,inum1S)] [] 19 []) ⟨[(2,(5,[.val 8 ((.int .i64)) false]))],[],[],[]⟩ ⟨aU8,trivial⟩ Tryz.func85 fun z r hl h=>(aJ9 z.1 z.2.1 hl).elim fun k hk=>⟨k,.trans (by kernel_rfl) (hk.trans h)⟩
theorem aHP:FOk Tryz.prog 41 containsNumsS:=fk (cx [(203000085,indexNumsS)] [] 9 []) A0 ⟨aNk,trivial⟩ Tryz.func41 fun z r hl h=>⟨0,.trans (by kernel_rfl) ((aFS z.1 z.2.1 hl).trans h)⟩
theorem aJM:FOk Tryz.prog 163 inumsS:=fk (cx [(203000041,containsNumsS)] [] 17 [5]) A0 ⟨aHP,trivial⟩ Tryz.func163 fun z r _ h=>⟨0,.trans (by kernel_rfl) ((aSt z.1 z.2.1 z.2.2.1).trans h)⟩
theorem aTM:FOk Tryz.prog 159 iclassS:=fk (cx [(156,itypesS),(163,inumsS)] [] 21 [1]) A0 ⟨aGC,aJM,trivial⟩ Tryz.func159 fun z r _ h=>⟨0,.trans (by kernel_rfl) ((aO0 z.1).trans h)⟩
theorem aTq:FOk Tryz.prog 158 ifits1S:=fk (cx [(159,iclassS)] [] 6 [1]) A0 ⟨aTM,trivial⟩ Tryz.func158 fun z r _ h=>⟨0,.trans (by kernel_rfl) ((aP5 z.1).trans h)⟩
theorem aKW:FOk Tryz.prog 198 indexClassS:=fk (cx [(158,ifits1S)] [] 19 []) ⟨[(2,(5,[.val 8 ((.int .i64)) false]))],[],[],[]⟩ ⟨aTq,trivial⟩ Tryz.func198 fun z r hl h=>(aHZ z.1 z.2.1 hl).elim fun k hk=>⟨k,.trans (by kernel_rfl) (hk.trans h)⟩
theorem aF4:FOk Tryz.prog 157 containsClassS:=fk (cx [(160000198,indexClassS)] [] 9 []) A0 ⟨aKW,trivial⟩ Tryz.func157 fun z r hl h=>⟨0,.trans (by kernel_rfl) ((aEa z.1 z.2.1 hl).trans h)⟩
theorem aPi:FOk Tryz.prog 205 iargsS:=fk (cx [] [] 26 []) ⟨[],[(2,(11,[.val 4 (.bool) false]))],[],[]⟩ trivial Tryz.func205 fun z r _ h=>⟨0,.trans (by kernel_rfl) ((aSg z.1).trans h)⟩
theorem aTf:FOk Tryz.prog 212 withinS:=fk (cx [] [] 18 []) A0 trivial Tryz.func212 fun z r _ h=>⟨0,.trans (by kernel_rfl) ((aO2 z.1 z.2.1 z.2.2.1).trans h)⟩
theorem aU0:FOk Tryz.prog 200 igoodS:=fk (cx [(205,iargsS),(212,withinS)] [] 21 [1]) A0 ⟨aPi,aTf,trivial⟩ Tryz.func200 fun z r _ h=>⟨0,.trans (by kernel_rfl) ((aR8 z.1).trans h)⟩
theorem aQ6:FOk Tryz.prog 162 imethodS:=fk (cx [(156,itypesS),(163,inumsS),(164,iwithinS),(197,itypS),(200,igoodS)] [] 51 [1,4]) ⟨[(4,(5,[.val 30 ((.int .i64)) false]))],[],[],[]⟩ ⟨aGC,aJM,aAo,aS0,aU0,trivial⟩ Tryz.func162 fun z r _ h=>(aNu z.1).elim fun k hk=>⟨k,.trans (by kernel_rfl) (hk.trans h)⟩
theorem aTL:FOk Tryz.prog 161 ifits2S:=fk (cx [(162,imethodS)] [] 6 [1]) A0 ⟨aQ6,trivial⟩ Tryz.func161 fun z r _ h=>⟨0,.trans (by kernel_rfl) ((aPg z.1).trans h)⟩
theorem aIE:FOk Tryz.prog 199 indexMethodS:=fk (cx [(161,ifits2S)] [] 19 []) ⟨[(2,(5,[.val 8 ((.int .i64)) false]))],[],[],[]⟩ ⟨aTL,trivial⟩ Tryz.func199 fun z r hl h=>(aFV z.1 z.2.1 hl).elim fun k hk=>⟨k,.trans (by kernel_rfl) (hk.trans h)⟩
theorem aFn:FOk Tryz.prog 160 containsMethodS:=fk (cx [(163000199,indexMethodS)] [] 9 []) A0 ⟨aIE,trivial⟩ Tryz.func160 fun z r hl h=>⟨0,.trans (by kernel_rfl) ((aC6 z.1 z.2.1 hl).trans h)⟩
theorem aIx:FOk Tryz.prog 172 sentry1S:=fk (cx [] [] 6 [1]) A0 trivial Tryz.func172 fun z r _ h=>⟨0,.trans (by kernel_rfl) ((aNw z.1).trans h)⟩
theorem aRz:FOk Tryz.prog 174 sentry2S:=fk (cx [(172,sentry1S)] [] 8 [2]) A0 ⟨aIx,trivial⟩ Tryz.func174 fun z r _ h=>⟨0,.trans (by kernel_rfl) ((aM6 z.1 z.2.1).trans h)⟩
theorem aLh:FOk Tryz.prog 203 indexEntryS:=fk (cx [(174,sentry2S)] [] 19 []) ⟨[(2,(5,[.val 8 ((.int .i64)) false]))],[],[],[]⟩ ⟨aRz,trivial⟩ Tryz.func203 fun z r hl h=>(aHR z.1 z.2.1 hl).elim fun k hk=>⟨k,.trans (by kernel_rfl) (hk.trans h)⟩
theorem aGk:FOk Tryz.prog 173 containsEntryS:=fk (cx [(176000203,indexEntryS)] [] 9 []) A0 ⟨aLh,trivial⟩ Tryz.func173 fun z r hl h=>⟨0,.trans (by kernel_rfl) ((aDO z.1 z.2.1 hl).trans h)⟩
theorem aVT:FOk Tryz.prog 122 newS:=fk (cx [] [] 6 [5]) A0 trivial Tryz.func122 fun z r _ h=>⟨0,.trans (by kernel_rfl) h⟩
theorem aVu:FOk Tryz.prog 177 nextS:=fk (cx [] [] 47 [1000000]) ⟨[(3,(8,[.val 4 ((.int .u64)) false,.val 12 ((.int .i64)) false]))],[],[],[]⟩ trivial Tryz.func177 fun z r _ h=>(aT7 z.1 r h).elim fun k hk=>⟨k,.trans (by kernel_rfl) hk⟩
theorem aEp:FOk Tryz.prog 123 getS:=fk {cx [(177,nextS)] [] 37 [1000000] with ptrs:=[163] } A0 ⟨aVu,trivial⟩ Tryz.func123 fun z r _ h=>⟨0,.trans (by kernel_rfl) h⟩
theorem aVg:FOk Tryz.prog 126 glongS:=fk (cx [(123,getS)] [] 15 [1000000]) A0 ⟨aEp,trivial⟩ Tryz.func126 fun z r _ h=>⟨0,.trans (by kernel_rfl) h⟩
theorem aVM:FOk Tryz.prog 128 finS:=fk {cx [] [] 20 [1000000] with ptrs:=[163] } A0 trivial Tryz.func128 fun z r _ h=>⟨0,.trans (by kernel_rfl) h⟩
theorem aJa:FOk Tryz.prog 99 rinS:=fk (cx [] [] 18 []) ⟨[(2,(4,[.val 5 ((.int .i64)) false]))],[],[],[]⟩ trivial Tryz.func99 fun z r _ h=>(aVi z.1 z.2.1 r h).elim fun k hk=>⟨k,.trans (by kernel_rfl) hk⟩
theorem aUS:FOk Tryz.prog 76 rargsS:=fk (cx [(99,rinS)] [] 24 []) A0 ⟨aJa,trivial⟩ Tryz.func76 fun z r _ h=>⟨0,.trans (by kernel_rfl) ((aRR z.1).trans h)⟩
theorem aVw:FOk Tryz.prog 179 igetS:=fk (cx [(123,getS),(205,iargsS)] [] 22 [1000000,2,3]) A0 ⟨aEp,aPi,trivial⟩ Tryz.func179 fun z r _ h=>⟨0,.trans (by kernel_rfl) h⟩
theorem aTF:FOk Tryz.prog 70 rinstrS:=fk (cx [(76,rargsS)] [] 45 [1]) ⟨[],[(2,(2,[]))],[],[]⟩ ⟨aUS,trivial⟩ Tryz.func70 fun z r _ h=>⟨0,.trans (by kernel_rfl) ((aOw z.1).trans h)⟩
theorem aVn:FOk Tryz.prog 104 clipCS:=fk (cx [] [] 9 []) A0 trivial Tryz.func104 fun z r _ h=>⟨0,.trans (by kernel_rfl) ((aR1 z.1).trans h)⟩
theorem aUv:FOk Tryz.prog 105 clipMS:=fk (cx [] [] 9 []) A0 trivial Tryz.func105 fun z r _ h=>⟨0,.trans (by kernel_rfl) ((aSG z.1).trans h)⟩
theorem aIt:FOk Tryz.prog 145 clipTS:=fk (cx [] [] 9 []) A0 trivial Tryz.func145 fun z r _ h=>⟨0,.trans (by kernel_rfl) ((aSE z.1).trans h)⟩
theorem aEL:FOk Tryz.prog 107 clipIS:=fk (cx [] [] 9 []) A0 trivial Tryz.func107 fun z r _ h=>⟨0,.trans (by kernel_rfl) ((aRk z.1).trans h)⟩
theorem aOO:FOk Tryz.prog 150 clipXS:=fk (cx [] [] 9 []) A0 trivial Tryz.func150 fun z r _ h=>⟨0,.trans (by kernel_rfl) ((aQ7 z.1).trans h)⟩
theorem aU4:FOk Tryz.prog 147 clipJS:=fk (cx [] [] 9 []) A0 trivial Tryz.func147 fun z r _ h=>⟨0,.trans (by kernel_rfl) ((aRr z.1).trans h)⟩
def cloneTS0:FSpec:=⟨[.full (aJ) false],[.val (aJ)],fun _=>some (([]:List Tp),())⟩
def cloneTS1:FSpec:=⟨[.full (aJ) true],[.val (aJ)],fun z=>qO z.1⟩
theorem aQU:FOk Tryz.prog 146 cloneTS0:=fk (cx [] [] 8 []) A0 trivial Tryz.func146 fun z r _ h=>⟨0,.trans (by kernel_rfl) h⟩
theorem aRM:FOk Tryz.prog 146 cloneTS1:=fk (cx [] [] 8 []) A0 trivial Tryz.func146 fun z r _ h=>⟨0,.trans (by kernel_rfl) h⟩
theorem aL8:FOk Tryz.prog 146 cloneTS:=FOk.split _ aRM aQU (fun _ h=>h)
def cloneJS0:FSpec:=⟨[.full (fQ) false],[.val (fQ)],fun _=>some (([]:List Int),())⟩
def cloneJS1:FSpec:=⟨[.full (fQ) true],[.val (fQ)],fun z=>aC1 z.1⟩
theorem aSF:FOk Tryz.prog 148 cloneJS0:=fk (cx [] [] 8 []) A0 trivial Tryz.func148 fun z r _ h=>⟨0,.trans (by kernel_rfl) h⟩
theorem aSh:FOk Tryz.prog 148 cloneJS1:=fk (cx [] [] 8 []) A0 trivial Tryz.func148 fun z r _ h=>⟨0,.trans (by kernel_rfl) h⟩
theorem aTp:FOk Tryz.prog 148 cloneJS:=FOk.split _ aSh aSF (fun _ h=>h)
def cloneIS0:FSpec:=⟨[.full (aL) false],[.val (aL)],fun _=>some (([]:List Int),())⟩
def cloneIS1:FSpec:=⟨[.full (aL) true],[.val (aL)],fun z=>aCL z.1⟩
theorem aRV:FOk Tryz.prog 149 cloneIS0:=fk (cx [] [] 8 []) A0 trivial Tryz.func149 fun z r _ h=>⟨0,.trans (by kernel_rfl) h⟩
theorem aRw:FOk Tryz.prog 149 cloneIS1:=fk (cx [] [] 8 []) A0 trivial Tryz.func149 fun z r _ h=>⟨0,.trans (by kernel_rfl) h⟩
theorem aTG:FOk Tryz.prog 149 cloneIS:=FOk.split _ aRw aRV (fun _ h=>h)
def cloneXS0:FSpec:=⟨[.full (eV) false],[.val (eV)],fun _=>some (([]:List Ins),())⟩
def cloneXS1:FSpec:=⟨[.full (eV) true],[.val (eV)],fun z=>aCz z.1⟩
theorem aQ8:FOk Tryz.prog 151 cloneXS0:=fk (cx [] [] 8 []) A0 trivial Tryz.func151 fun z r _ h=>⟨0,.trans (by kernel_rfl) h⟩
theorem aQ3:FOk Tryz.prog 151 cloneXS1:=fk (cx [] [] 8 []) A0 trivial Tryz.func151 fun z r _ h=>⟨0,.trans (by kernel_rfl) h⟩
theorem aTz:FOk Tryz.prog 151 cloneXS:=FOk.split _ aQ3 aQ8 (fun _ h=>h)
theorem aVO:FOk Tryz.prog 100 anTS:=fk (cx [(145,clipTS),(146,cloneTS)] [] 6 []) A0 ⟨aIt,aL8,trivial⟩ Tryz.func100 fun z r _ h=>⟨0,.trans (by kernel_rfl) h⟩
theorem aVJ:FOk Tryz.prog 101 anJS:=fk (cx [(147,clipJS),(148,cloneJS)] [] 6 []) A0 ⟨aU4,aTp,trivial⟩ Tryz.func101 fun z r _ h=>⟨0,.trans (by kernel_rfl) h⟩
theorem aVK:FOk Tryz.prog 102 anIS:=fk (cx [(107,clipIS),(149,cloneIS)] [] 6 []) A0 ⟨aEL,aTG,trivial⟩ Tryz.func102 fun z r _ h=>⟨0,.trans (by kernel_rfl) h⟩
theorem aVQ:FOk Tryz.prog 103 anXS:=fk (cx [(150,clipXS),(151,cloneXS)] [] 6 []) A0 ⟨aOO,aTz,trivial⟩ Tryz.func103 fun z r _ h=>⟨0,.trans (by kernel_rfl) h⟩
theorem aUW:FOk Tryz.prog 202 eqTS:=fk (cx [] [] 26 []) ⟨[(4,(5,[.val 13 ((.int .i64)) false]))],[],[(6,[[],[0],[],[],[0,1,2,3],[0,1,2,3,4],[0,1,2,3],[0,1,2,3],[]])],[]⟩ trivial Tryz.func202 fun z r hl h=>(aOp z.1 z.2.1 hl).elim fun k hk=>⟨k,.trans (by kernel_rfl) (hk.trans h)⟩
theorem aO1:FOk Tryz.prog 113 ifitsS:=fk (cx [(156,itypesS),(163,inumsS),(164,iwithinS),(160000157,containsClassS),(163000160,containsMethodS)] [] 46 [1]) A0 ⟨aGC,aJM,aAo,aF4,aFn,trivial⟩ Tryz.func113 fun z r _ h=>⟨0,.trans (by kernel_rfl) ((aRt z.1).trans h)⟩
theorem aJS:FOk Tryz.prog 178 getTypeS:=fk (cx [(123,getS)] [] 14 [1000000,2,3]) A0 ⟨aEp,trivial⟩ Tryz.func178 fun z r _ h=>⟨0,.trans (by kernel_rfl) (aOd z.1 r h)⟩
theorem aGO:FOk Tryz.prog 124 getTypesS:=fk (cx [(123,getS),(145,clipTS),(178,getTypeS)] [11] 19 [1000000]) ⟨[(3,(3,[.val 5 (aJ) true,.val 9 ((.int .i64)) false,.box 1000000 204 [(gC,false),(.bool,false)]]))],[],[],[]⟩ ⟨aEp,aIt,aJS,trivial⟩ Tryz.func124 fun z r _ h=>(aK2 z.1 z.2.1 r h).elim fun k hk=>⟨k,.trans (by kernel_rfl) hk⟩
theorem aKp:FOk Tryz.prog 125 getNumsS:=fk (cx [(107,clipIS),(123,getS)] [13] 22 [1000000]) ⟨[(3,(3,[.val 7 (aL) true,.val 11 ((.int .i64)) false,.box 1000000 204 [(gC,false),(.bool,false)]]))],[],[],[]⟩ ⟨aEL,aEp,trivial⟩ Tryz.func125 fun z r _ h=>(aNx z.1 z.2.1 z.2.2.1 r h).elim fun k hk=>⟨k,.trans (by kernel_rfl) hk⟩
theorem aNE:FOk Tryz.prog 127 getMethodS:=fk (cx [(123,getS),(124,getTypesS),(125,getNumsS),(150,clipXS),(178,getTypeS),(179,igetS)] [16] 37 [1000000,2,3]) ⟨[(3,(3,[.val 13 ((.int .i64)) false,.box 1000000 204 [(gC,false),(.bool,false)],.box 3 42 [(aJ,false),(aJ,false),((.int .i64),false),((.int .i64),false),(eV,true),((.int .i64),false),((.int .i64),false),(aL,true)]]))],[],[(4,[[],[],[0,1],[0,1],[0,1],[],[],[]])],[]⟩ ⟨aEp,aGO,aKp,aOO,aJS,aVw,trivial⟩ Tryz.func127 fun z r _ h=>(aJo z.1 r h).elim fun k hk=>⟨k,.trans (by kernel_rfl) hk⟩
theorem aVp:FOk Tryz.prog 55 icopyS:=fk (cx [(100,anTS),(101,anJS),(102,anIS),(103,anXS),(104,clipCS),(105,clipMS)] [30,68] 83 [1,2,3,5,7]) ⟨[(3,(4,[.val 25 ((.int .i64)) false,.box 3 28 [(dM,true),(aJ,false),(fQ,false),(gQ,true),(aL,false),((.int .i64),false),((.int .i64),false)]])),(8,(5,[.val 47 ((.int .i64)) false,.box 3 28 [(dM,true),(aJ,false),(fQ,false),(gQ,true),(aL,false),((.int .i64),false),((.int .i64),false)]]))],[],[(1,[[],[],[],[0,1,2],[0,1,2],[],[0,1,2,3,4,5],[0,1,2,3,4,5],[],[0,1,2,3,4,5,6,7,8],[0,1,2,3,4,5,6,7,8],[0,1,2,3,4,5,6,7,8,9,10],[0,1,2,3,4,5,6,7,8,9,10],[],[0,1,2,3,4,5,6,7,8,9,10,11,12,13],[]]),(5,[[],[],[0,1],[0,1],[0,1,2,3],[0,1,2,3],[0,1,2,3],[0,1,2,3,4,5,6],[0,1,2,3,4,5,6],[0,1,2,3],[0,1],[0,1],[],[],[]]),(10,[[],[],[],[0,1,2],[0,1,2],[],[0,1,2,3,4,5],[0,1,2,3,4,5],[],[0,1,2,3,4,5,6,7,8],[0,1,2,3,4,5,6,7,8],[],[5,8,11],[],[],[],[],[],[],[]]),(13,[[],[],[],[0,1,2],[0,1,2],[],[5],[],[],[]])],[]⟩ ⟨aVO,aVJ,aVK,aVQ,aVn,aUv,trivial⟩ Tryz.func55 fun z r _ h=>(aR3 z.1 r h).elim fun k hk=>⟨k,.trans (by kernel_rfl) hk⟩
theorem aRh:FOk Tryz.prog 77 idecodeS:=fk (cx [(55,icopyS),(113,ifitsS),(122,newS),(123,getS),(124,getTypesS),(125,getNumsS),(126,glongS),(127,getMethodS),(128,finS)] [29,50,62] 89 [2,23,5]) ⟨[(6,(3,[.val 26 ((.int .i64)) false,.box 23 204 [(gC,false),(.bool,false)],.box 5 28 [(dM,true),(aJ,true),(fQ,true),(gQ,true),(aL,true),((.int .i64),false),((.int .i64),false)]])),(11,(3,[.val 47 ((.int .i64)) false,.box 23 204 [(gC,false),(.bool,false)],.box 5 28 [(dM,true),(aJ,false),(fQ,true),(gQ,true),(aL,true),((.int .i64),false),((.int .i64),false)]])),(15,(3,[.val 59 ((.int .i64)) false,.box 23 204 [(gC,false),(.bool,false)],.box 5 28 [(dM,true),(aJ,false),(fQ,true),(gQ,true),(aL,true),((.int .i64),false),((.int .i64),false)]]))],[],[(7,[[],[],[0,1],[0,1],[0,1],[0,1,2,3,4],[0,1,4],[0,1,2,3,4,5,6],[0,1,4],[0,1],[0,1],[],[],[]]),(12,[[],[],[0,1],[0,1],[0,1],[],[],[]]),(16,[[],[],[0,1],[0,1],[0,1],[],[],[]])],[]⟩ ⟨aVp,aO1,aVT,aEp,aGO,aKp,aVg,aNE,aVM,trivial⟩ Tryz.func77 fun z r _ h=>(aN0 z.1 r h).elim fun k hk=>⟨k,.trans (by kernel_rfl) hk⟩
theorem aUH:FOk Tryz.prog 165 kgoodS:=fk (cx [] [] 24 [2]) ⟨[],[(2,(2,[.val 7 (.bool) false]))],[],[]⟩ trivial Tryz.func165 fun z r _ h=>⟨0,.trans (by kernel_rfl) ((aRG z.1 z.2.1).trans h)⟩
theorem aMh:FOk Tryz.prog 143 kisrefS:=fk (cx [] [] 16 [1]) A0 trivial Tryz.func143 fun z r _ h=>⟨0,.trans (by kernel_rfl) ((aQw z.1).trans h)⟩
theorem aUY:FOk Tryz.prog 180 kupS:=fk (cx [] [] 27 []) A0 trivial Tryz.func180 fun z r _ h=>⟨0,.trans (by kernel_rfl) ((aVq z.1 z.2.1).trans h)⟩
theorem aFZ:FOk Tryz.prog 135 kbelowS:=fk (cx [(180,kupS)] [] 29 []) ⟨[(3,(4,[.val 1 ((.int .i64)) false]))],[],[],[]⟩ ⟨aUY,trivial⟩ Tryz.func135 fun z r _ h=>(aOH z.1 z.2.1 z.2.2.1).elim fun k hk=>⟨k,.trans (by kernel_rfl) (hk.trans h)⟩
theorem aNy:FOk Tryz.prog 144 ksubS:=fk (cx [(135,kbelowS),(143,kisrefS)] [] 41 [4,5]) A0 ⟨aFZ,aMh,trivial⟩ Tryz.func144 fun z r _ h=>⟨0,.trans (by kernel_rfl) ((aTA z.1 z.2.1 z.2.2.1).trans h)⟩
theorem aCO:FOk Tryz.prog 89 raboveS:=fk (cx [] [16] 30 []) ⟨[(2,(6,[.val 1 ((.int .i64)) false,.val 5 (aL) true]))],[],[],[]⟩ trivial Tryz.func89 fun z r _ h=>(aQi z.1 z.2.1 r h).elim fun k hk=>⟨k,.trans (by kernel_rfl) hk⟩
theorem aLM:FOk Tryz.prog 52 risrefS:=fk (cx [] [] 16 [1]) A0 trivial Tryz.func52 fun z r _ h=>⟨0,.trans (by kernel_rfl) ((aOI z.1).trans h)⟩
theorem aO6:FOk Tryz.prog 130 rgoodS:=fk (cx [] [] 34 [2]) A0 trivial Tryz.func130 fun z r _ h=>⟨0,.trans (by kernel_rfl) ((aRl z.1 z.2.1).trans h)⟩
theorem aNQ:FOk Tryz.prog 53 rsubS:=fk (cx [(52,risrefS),(89,raboveS),(99,rinS)] [] 40 [4,5]) ⟨[],[],[(4,[[],[],[],[],[],[4],[4],[],[4,5,6,7],[4,5,6,7],[],[],[]])],[]⟩ ⟨aLM,aCO,aJa,trivial⟩ Tryz.func53 fun z r _ h=>⟨0,.trans (by kernel_rfl) (aUo z.1 z.2.1 z.2.2.1 r h)⟩
theorem aMp:FOk Tryz.prog 60 rtypesS:=fk (cx [] [] 26 []) ⟨[(4,(4,[.val 5 ((.int .i64)) false]))],[],[(6,[[],[0],[],[],[0,1,2,3],[0,1,2,3,4],[0,1,2,3],[0,1,2,3],[]])],[]⟩ trivial Tryz.func60 fun z r hl h=>(aPp z.1 z.2.1 hl).elim fun k hk=>⟨k,.trans (by kernel_rfl) (hk.trans h)⟩
theorem aNv:FOk Tryz.prog 68 r5inS:=fk (cx [] [] 15 []) A0 trivial Tryz.func68 fun z r _ h=>⟨0,.trans (by kernel_rfl) ((aTK z.1 z.2.1 z.2.2.1).trans h)⟩
theorem aUj:FOk Tryz.prog 67 r5listS:=fk (cx [(68,r5inS)] [] 25 []) ⟨[(4,(4,[.val 7 ((.int .i64)) false]))],[],[],[]⟩ ⟨aNv,trivial⟩ Tryz.func67 fun z r hl h=>(aPs z.1 z.2.1 z.2.2.1 hl).elim fun k hk=>⟨k,.trans (by kernel_rfl) (hk.trans h)⟩
theorem aQH:FOk Tryz.prog 69 r5typS:=fk (cx [(68,r5inS)] [] 21 [1]) A0 ⟨aNv,trivial⟩ Tryz.func69 fun z r _ h=>⟨0,.trans (by kernel_rfl) ((aSH z.1).trans h)⟩
theorem aRn:FOk Tryz.prog 66 r5typesS:=fk (cx [(69,r5typS)] [] 22 []) ⟨[(4,(4,[.val 5 ((.int .i64)) false]))],[],[],[]⟩ ⟨aQH,trivial⟩ Tryz.func66 fun z r hl h=>(aM1 z.1 z.2.1 hl).elim fun k hk=>⟨k,.trans (by kernel_rfl) (hk.trans h)⟩
theorem aL2:FOk Tryz.prog 34 r5fitsS:=fk (cx [(66,r5typesS),(67,r5listS),(68,r5inS),(69,r5typS),(70,rinstrS)] [] 142 [1,4,6]) ⟨[(4,(5,[.val 3 ((.int .i64)) false])),(10,(10,[.val 5 ((.int .i64)) false])),(16,(4,[.val 7 ((.int .i64)) false]))],[],[],[]⟩ ⟨aRn,aUj,aNv,aQH,aTF,trivial⟩ Tryz.func34 fun z r hl h=>(aOM z.1 hl).elim fun k hk=>⟨k,.trans (by kernel_rfl) (hk.trans h)⟩
theorem wP:FOk Tryz.prog 45 r5fieldsS:=fk (cx [(89,raboveS)] [20,31] 32 [2]) ⟨[(4,(3,[.val 6 (aJ) true,.val 7 ((.int .i64)) false]))],[],[(6,[[],[0],[0],[0,1,2],[0,1,2,3],[0,1,2],[0,1,2],[0],[0],[0],[],[]])],[]⟩ ⟨aCO,trivial⟩ Tryz.func45 fun z r _ h=>(aKJ z.1 z.2.1 r h).elim fun k hk=>⟨k,.trans (by kernel_rfl) hk⟩
theorem aFY:FOk Tryz.prog 79 r5goodS:=fk (cx [(130,rgoodS)] [] 21 [2]) ⟨[(2,(4,[.val 5 ((.int .i64)) false]))],[],[(4,[[],[0],[],[],[0,1,2,3],[0,1,2,3],[0,1,2,3],[],[]])],[]⟩ ⟨aO6,trivial⟩ Tryz.func79 fun z r hl h=>(aQC z.1 z.2.1 hl).elim fun k hk=>⟨k,.trans (by kernel_rfl) (hk.trans h)⟩
theorem aSs:FOk Tryz.prog 80 r5classS:=fk (cx [(45,r5fieldsS),(53,rsubS),(60,rtypesS),(79,r5goodS)] [] 118 [2,5,8,9]) ⟨[(10,(11,[.val 7 ((.int .i64)) false]))],[(5,(2,[.val 6 (aL) false])),(12,(9,[]))],[(12,[[],[],[0,1],[],[],[0,1,2,3,4],[0,1,2,3,4],[0,1,2,3,4],[]]),(14,[[],[],[0,1],[0,1],[0,1,2,3],[0,1],[0,1],[],[],[0,1,2,3,4,5,6,7,8],[]]),(15,[[],[],[],[],[],[],[],[5,6],[5,6],[5,6,7,8],[5,6,7,8],[5,6,7,8],[5,6,7,8],[],[],[]]),(18,[[],[],[0,1],[0,1,2],[0,1],[0,1],[],[],[0,1,2,3,4,5,6,7],[]]),(19,[[],[],[],[0,1,2],[0,1,2],[0,1,2],[],[],[],[],[],[9,10],[9,10],[],[]])],[]⟩ ⟨wP,aNQ,aMp,aFY,trivial⟩ Tryz.func80 fun z r _ h=>(aNa z.1 z.2.1 r h).elim fun k hk=>⟨k,.trans (by kernel_rfl) hk⟩
theorem aSm:FOk Tryz.prog 131 r5namedS:=fk (cx [(45,r5fieldsS)] [] 105 [3,4,5]) ⟨[],[(4,(2,[.val 17 (.bool) false])),(7,(2,[.val 30 (.bool) false])),(10,(2,[.val 39 (.bool) false])),(13,(2,[.val 48 (.bool) false])),(16,(2,[.val 67 (.bool) false]))],[(15,[[],[],[0,1],[0,1],[0,1],[],[],[],[],[7,8],[7,8,9],[7,8,9],[7,8],[7,8],[],[],[]]),(22,[[],[],[0,1],[0,1],[0,1],[],[],[],[],[7,8],[7,8],[7,8,9,10],[7,8,9,10],[7,8],[7,8],[7,8],[7,8],[],[],[]])],[]⟩ ⟨wP,trivial⟩ Tryz.func131 fun z r _ h=>⟨0,.trans (by kernel_rfl) (aNp z.1 z.2.1 z.2.2.1 r h)⟩
theorem aQJ:FOk Tryz.prog 81 r5methodS:=fk (cx [(79,r5goodS),(130,rgoodS),(131,r5namedS)] [] 74 [2,3]) ⟨[(4,(4,[.val 5 ((.int .i64)) false]))],[(1,(2,[]))],[(6,[[],[0],[0,1],[0,1],[0,1,2,3],[0,1],[0,1],[],[]])],[]⟩ ⟨aFY,aO6,aSm,trivial⟩ Tryz.func81 fun z r _ h=>(aKK z.1 z.2.1 r h).elim fun k hk=>⟨k,.trans (by kernel_rfl) hk⟩
theorem aTk:FOk Tryz.prog 39 r5saneS:=fk (cx [(34,r5fitsS),(79,r5goodS),(80,r5classS),(81,r5methodS)] [] 111 [1]) ⟨[(5,(3,[.val 3 (.bool) false,.val 4 ((.int .i64)) false])),(9,(3,[.val 3 (.bool) false,.val 5 ((.int .i64)) false])),(13,(10,[.val 3 (.bool) false,.val 6 ((.int .i64)) false])),(20,(3,[.val 3 (.bool) false,.val 8 ((.int .i64)) false]))],[(4,(4,[.val 3 (.bool) false])),(8,(4,[.val 3 (.bool) false])),(18,(1,[.val 3 (.bool) false]))],[(11,[[],[0],[0],[0,1,2],[0],[0],[],[]])],[]⟩ ⟨aL2,aFY,aSs,aQJ,trivial⟩ Tryz.func39 fun z r hl h=>(aQp z.1 hl).elim fun k hk=>⟨k,.trans (by kernel_rfl) (hk.trans h)⟩
theorem aRy:FOk Tryz.prog 167 sinS:=fk (cx [] [] 12 []) A0 trivial Tryz.func167 fun z r _ h=>⟨0,.trans (by kernel_rfl) ((aUN z.1 z.2.1).trans h)⟩
theorem aNr:FOk Tryz.prog 114 sallS:=fk (cx [(165,kgoodS)] [] 29 [2,8]) ⟨[(2,(9,[.val 11 ((.int .i64)) false])),(5,(5,[.val 17 ((.int .i64)) false]))],[],[],[]⟩ ⟨aUH,trivial⟩ Tryz.func114 fun z r hl h=>(aTb z.1 z.2.1 hl).elim fun k hk=>⟨k,.trans (by kernel_rfl) (hk.trans h)⟩
theorem aMf:FOk Tryz.prog 166 saboveS:=fk (cx [] [] 47 [2]) ⟨[(5,(3,[.val 4 ((.int .i64)) false,.val 7 ((.int .i64)) false]))],[(1,(3,[.val 5 (aL) false]))],[],[]⟩ trivial Tryz.func166 fun z r _ h=>(aQu z.1 z.2.1 r h).elim fun k hk=>⟨k,.trans (by kernel_rfl) hk⟩
theorem aVk:FOk Tryz.prog 168 sfitsS:=fk (cx [(144,ksubS)] [] 28 [3,7]) ⟨[],[],[(2,[[],[],[],[],[],[],[],[5,6],[5,6],[5,6,7,8],[5,6,7,8],[5,6,7,8],[5,6,7,8],[],[],[]])],[]⟩ ⟨aNy,trivial⟩ Tryz.func168 fun z r _ h=>⟨0,.trans (by kernel_rfl) (aSI z.1 z.2.1 z.2.2.1 r h)⟩
theorem aS7:FOk Tryz.prog 169 salikeS:=fk (cx [(202,eqTS)] [] 31 [2,3]) ⟨[],[],[(1,[[],[],[],[],[],[],[],[],[],[],[],[],[],[],[11,12,13],[11,12,13],[11,12,13],[],[],[],[],[],[20,21],[20,21],[],[],[]])],[]⟩ ⟨aUW,trivial⟩ Tryz.func169 fun z r _ h=>⟨0,.trans (by kernel_rfl) ((aQa z.1 z.2.1).trans h)⟩
theorem aUl:FOk Tryz.prog 115 sclassS:=fk (cx [(114,sallS),(166,saboveS),(167,sinS),(168,sfitsS),(169,salikeS)] [] 92 [2,5]) ⟨[(8,(5,[.val 50 ((.int .i64)) false]))],[],[(10,[[],[0],[0],[0],[],[],[],[],[7],[7,8],[],[],[],[],[],[14],[14],[],[],[],[],[19,20],[],[],[19,20,21,22,23],[19,20,21,22,23],[19,20,21,22,23,24,25],[19,20,21,22,23,24,25,26],[19,20,21,22,23,24,25],[19,20,21,22,23,24,25],[19,20,21,22,23],[19,20,21,22,23],[],[],[],[]])],[]⟩ ⟨aNr,aMf,aRy,aVk,aS7,trivial⟩ Tryz.func115 fun z r _ h=>(aOx z.1 z.2.1 r h).elim fun k hk=>⟨k,.trans (by kernel_rfl) hk⟩
theorem aRW:FOk Tryz.prog 170 sfieldsS:=fk (cx [(166,saboveS)] [] 21 []) A0 ⟨aMf,trivial⟩ Tryz.func170 fun z r _ h=>⟨0,.trans (by kernel_rfl) (aNH z.1 z.2.1 r h)⟩
theorem aS5:FOk Tryz.prog 171 sinstrS:=fk (cx [(167,sinS),(170,sfieldsS)] [] 106 [4,5,6]) ⟨[],[(4,(2,[.val 19 (.bool) false])),(7,(2,[.val 32 (.bool) false])),(10,(2,[.val 41 (.bool) false])),(13,(2,[.val 50 (.bool) false])),(16,(2,[.val 68 (.bool) false]))],[(15,[[],[],[0,1],[0,1],[0,1],[],[],[],[],[7,8],[7,8,9],[7,8,9],[7,8],[],[],[]]),(22,[[],[],[0,1],[0,1],[0,1],[],[],[],[],[7,8],[7,8],[7,8,9,10],[7,8,9,10],[7,8],[7,8],[7,8],[7,8],[],[],[]])],[]⟩ ⟨aRy,aRW,trivial⟩ Tryz.func171 fun z r _ h=>⟨0,.trans (by kernel_rfl) (aPN z.1 z.2.1 z.2.2.1 z.2.2.2.1 r h)⟩
theorem aRj:FOk Tryz.prog 116 smethodS:=fk (cx [(114,sallS),(172000171,sinstrS)] [] 69 [2,3,7]) ⟨[(7,(5,[.val 58 ((.int .i64)) false]))],[(1,(2,[]))],[],[]⟩ ⟨aNr,aS5,trivial⟩ Tryz.func116 fun z r _ h=>(aNf z.1 z.2.1 r h).elim fun k hk=>⟨k,.trans (by kernel_rfl) hk⟩
theorem aS8:FOk Tryz.prog 117 sentryS:=fk (cx [(167,sinS),(172,sentry1S),(176000173,containsEntryS)] [] 35 [2,5,6]) A0 ⟨aRy,aIx,aGk,trivial⟩ Tryz.func117 fun z r _ h=>⟨0,.trans (by kernel_rfl) (aOZ z.1 z.2.1 r h)⟩
theorem aT5:FOk Tryz.prog 62 scheckS:=fk (cx [(113,ifitsS),(114,sallS),(115,sclassS),(116,smethodS),(117,sentryS)] [] 52 [1,5]) ⟨[(6,(5,[.val 20 ((.int .i64)) false])),(12,(5,[.val 31 ((.int .i64)) false])),(18,(5,[.val 43 ((.int .i64)) false]))],[],[],[]⟩ ⟨aO1,aNr,aUl,aRj,aS8,trivial⟩ Tryz.func62 fun z r hl h=>(aQG z.1 hl).elim fun k hk=>⟨k,.trans (by kernel_rfl) (hk.trans h)⟩
theorem aTo:FOk Tryz.prog 87 cbelowS:=fk (cx [(107,clipIS),(135,kbelowS)] [18] 25 [2]) ⟨[(3,(5,[.val 5 (aL) true,.val 10 ((.int .i64)) false]))],[],[],[]⟩ ⟨aEL,aFZ,trivial⟩ Tryz.func87 fun z r _ h=>(aPd z.1 z.2.1 r h).elim fun k hk=>⟨k,.trans (by kernel_rfl) hk⟩
theorem aQM:FOk Tryz.prog 88 cslotS:=fk (cx [] [] 41 [3]) A0 trivial Tryz.func88 fun z r _ h=>⟨0,.trans (by kernel_rfl) ((aJN z.1 z.2.1 z.2.2.1).trans h)⟩
theorem aG3:FOk Tryz.prog 44 ctargetsS:=fk (cx [(87,cbelowS),(88,cslotS)] [14,39,44] 45 [2,3]) ⟨[(7,(6,[.val 5 (aL) true,.val 26 ((.int .i64)) false]))],[],[],[]⟩ ⟨aTo,aQM,trivial⟩ Tryz.func44 fun z r _ h=>(aLn z.1 z.2.1 r h).elim fun k hk=>⟨k,.trans (by kernel_rfl) hk⟩
theorem aVR:FOk Tryz.prog 56 cofS:=fk {cx [(44,ctargetsS),(107,clipIS),(1000000000106,sortIS),(1000000000108,compactIS)] [28] 39 [2,5,7,32,37] with rows:=[5,32,37],thaws:=[37] } ⟨[(5,(4,[.own 5 3 ((.int .i64)),.val 24 ((.int .i64)) false]))],[],[],[]⟩ ⟨aG3,aEL,aPT,aPq,trivial⟩ Tryz.func56 fun z r _ h=>(aUt z.1 z.2.1 r h).elim fun k hk=>⟨k,.trans (by kernel_rfl) hk⟩
theorem aRL:FOk Tryz.prog 90 r5belowS:=fk (cx [(89,raboveS),(99,rinS)] [21,25] 26 [2]) ⟨[(3,(4,[.val 5 (aL) true,.val 6 ((.int .i64)) false]))],[],[],[]⟩ ⟨aCO,aJa,trivial⟩ Tryz.func90 fun z r _ h=>(aNR z.1 z.2.1 r h).elim fun k hk=>⟨k,.trans (by kernel_rfl) hk⟩
theorem aLP:FOk Tryz.prog 91 r5slotS:=fk (cx [] [] 41 [3]) A0 trivial Tryz.func91 fun z r _ h=>⟨0,.trans (by kernel_rfl) ((aPJ z.1 z.2.1 z.2.2.1).trans h)⟩
theorem aFd:FOk Tryz.prog 46 r8targetsS:=fk (cx [(90,r5belowS),(91,r5slotS)] [14,44,48] 49 [2,3]) ⟨[(7,(5,[.val 5 (aL) true,.val 7 ((.int .i64)) false]))],[(2,(2,[.val 5 (aL) true]))],[(9,[[],[0],[0,1],[0],[0],[0,1,2,3,4],[0,1,2,3,4],[],[],[],[9],[10],[]])],[(9,[0,1,2,3,4,5,6,7,8,9,11,10,12])]⟩ ⟨aRL,aLP,trivial⟩ Tryz.func46 fun z r _ h=>(aIV z.1 z.2.1 r h).elim fun k hk=>⟨k,.trans (by kernel_rfl) hk⟩
theorem aQW:FOk Tryz.prog 61 r8callsS:=fk (cx [(46,r8targetsS),(99,rinS)] [] 32 [3]) ⟨[(2,(4,[.val 7 ((.int .i64)) false]))],[],[(4,[[],[0],[0],[0,1,2],[0],[0],[0],[0,1,2,3,4,5,6],[0],[0],[],[0,1,2,3,4,5,6,7,8,9,10],[]])],[]⟩ ⟨aFd,aJa,trivial⟩ Tryz.func61 fun z r _ h=>(aNY z.1 z.2.1 z.2.2.1 r h).elim fun k hk=>⟨k,.trans (by kernel_rfl) hk⟩
theorem aJ6:FOk Tryz.prog 26 r8edgesS:=fk {cx [(61,r8callsS)] [27,31] 36 [1,7,3,34] with rows:=[3,7,34] } ⟨[(3,(9,[.own 3 26 (aL),.val 4 ((.int .i64)) false])),(7,(4,[.val 5 (aL) true,.val 6 ((.int .i64)) false]))],[],[],[]⟩ ⟨aQW,trivial⟩ Tryz.func26 fun z r _ h=>(aN8 z.1 r h).elim fun k hk=>⟨k,.trans (by kernel_rfl) hk⟩
theorem aTC:FOk Tryz.prog 25 r8waysS:=fk {cx [] [] 111 [13,22] with rows:=[13,22],nests:=[13] } ⟨[(4,(8,[.val 5 ((.int .i64)) false,.row 13 66 ((.osl 4 .bool))])),(8,(4,[.val 6 ((.int .i64)) false,.row 13 66 ((.osl 4 .bool))])),(13,(9,[.val 7 ((.int .i64)) false,.row 13 66 ((.osl 4 .bool))])),(16,(6,[.val 8 ((.int .i64)) false,.row 13 66 ((.osl 4 .bool))])),(19,(3,[.val 9 ((.int .i64)) false,.row 13 66 ((.osl 4 .bool))]))],[],[(11,[[],[0],[],[],[0,1,2,3],[0,1,2,3,4],[0,1,2,3],[0,1,2,3],[0,1,2,3,4,5,6,7],[0,1,2,3],[0,1,2,3],[],[]]),(21,[[],[0],[],[],[0,1,2,3],[0,1,2,3,4],[0,1,2,3,4,5],[0,1,2,3,4],[0,1,2,3,4],[0,1,2,3,4,5,6,7,8],[0,1,2,3,4],[0,1,2,3,4],[0,1,2,3,4],[0,1,2,3,4],[0,1,2,3,4,13],[0,1,2,3,4],[0,1,2,3,4],[0,1,2,3,4,13,14,15,16],[0,1,2,3,4],[0,1,2,3,4],[0,1,2,3,4],[0,1,2,3,4],[0,1,2,3,4,21],[0,1,2,3,4],[0,1,2,3,4],[0,1,2,3,4,21,22,23,24],[0,1,2,3,4],[0,1,2,3,4],[0,1,2,3,4],[0,1,2,3,4],[],[]])],[]⟩ trivial Tryz.func25 fun z r _ h=>(aOy z.1 r h).elim fun k hk=>⟨k,.trans (by kernel_rfl) hk⟩
theorem aTU:FOk Tryz.prog 154 fenterS:=fk {cx [] [41] 47 [1002000001,1002000002,1002000003,1002000004,1002000006,1000000,44] with rows:=[44] } ⟨[],[],[(1,[[],[],[],[],[0,1,2,3],[0,1,2,3,4],[0,1,2,3,4],[0,1,2,3,4],[0,1,2,3,4],[0,1,2,3,4,5,6,7,8],[0,1,2,3,4,5,6,7,8,9],[0,1,2,3,4,5,6,7,8,9],[0,1,2,3,4,5,6,7,8,9],[0,1,2,3,4,5,6,7,8,9],[0,1,2,3,4,5,6,7,8,9,10,11,12,13],[0,1,2,3,4,5,6,7,8,9,10,11,12,13],[0,1,2,3,4,5,6,7,8,9,10,11,12,13],[0,1,2,3,4,5,6,7,8,9,10,11,12,13],[9],[9],[],[]])],[(1,[0,1,2,3,4,5,6,7,8,19,9,10,11,12,13,14,15,16,17,18,20,21])]⟩ trivial Tryz.func154 fun z r _ h=>⟨0,.trans (by kernel_rfl) h⟩
theorem aUm:FOk Tryz.prog 107 clipIOS:=fk {cx [] [] 9 [0,8] with rows:=[1,8] } A0 trivial Tryz.func107 fun z r _ h=>⟨0,.trans (by kernel_rfl) ((aQj z.1).trans h)⟩
theorem aTg:FOk Tryz.prog 155 fleaveS:=fk {cx [(1000000000106,sortIS),(1000000000107,clipIOS)] [50,63] 70 [1002000001,1002000002,1002000003,1002000004,1002000006,1000000,4,41,53,65,67] with rows:=[4,41,53,65,67],thaws:=[65] } ⟨[(2,(6,[.own 4 3 ((.int .i64)),.lnk 1002000003 4 (.bool),.lnk 1002000004 3 ((.int .i64))]))],[],[(0,[[],[],[],[],[0,1,2,3],[],[],[0,1,2,3,4,5,6],[0,1,2,3,4,5,6],[0,1,2,3,4,5,6],[0,1,2,3,4,5,6],[0,1,2,3,4,5,6,7,8,9,10],[0,1,2,3,4,5,6],[0,1,2,3,4,5,6],[]]),(9,[[],[0],[0],[0],[0],[0,1,2,3,4],[0,1,2,3,4],[0,1,2,3,4],[0],[],[],[]])],[]⟩ ⟨aPT,aUm,trivial⟩ Tryz.func155 fun z r _ h=>(aPk z.1 z.2.1 r h).elim fun k hk=>⟨k,.trans (by kernel_rfl) hk⟩
theorem aUw:FOk Tryz.prog 109 ffromS:=fk {cx [(154,fenterS),(155,fleaveS)] [83] 169 [1002000001,1002000002,1002000003,1002000004,1002000006,1000000,11,4,87,134] with rows:=[4,11,87,134] } ⟨[(2,(17,[.own 4 188 (cI),.lnk 1002000001 3 ((.int .i64)),.lnk 1002000002 3 ((.int .i64)),.lnk 1002000003 4 (.bool),.lnk 1002000004 3 ((.int .i64)),.lnk 1002000006 26 (aL),.box 1000000 155 [(eI,false),(.any,false),(.any,false),(.any,false),(.any,false),((.int .i64),false),(.any,false)]])),(4,(9,[.own 4 188 (cI),.ptr 5 4 0 2,.lnk 1002000002 3 ((.int .i64))]))],[(7,(1,[.val 62 (.bool) false]))],[(4,[[],[],[],[],[0,1,2,3],[0,1,2,3],[0,1,2,3],[0,1,2,3],[0,1,2,3,4,5,6,7],[0,1,2,3,4,5,6,7],[0,1,2,3,4,5,6,7],[0,1,2,3,4,5,6,7],[0,1,2,3],[0,1,2,3],[0,1,2,3],[]]),(5,[[],[],[],[],[0,1,2,3],[0,1,2,3],[0,1,2,3],[0,1,2,3],[],[],[0,1,2,3,4,5,6,7,8,9],[0,1,2,3,4,5,6,7,8,9],[0,1,2,3,4,5,6,7,8,9],[0,1,2,3,4,5,6,7,8,9],[],[],[]]),(12,[[],[],[],[],[0,1,2,3],[0,1,2,3],[0,1,2,3],[0,1,2,3],[0,1,2,3,4,5,6,7],[0,1,2,3,4,5,6,7],[0,1,2,3,4,5,6,7],[0,1,2,3,4,5,6,7],[0,1,2,3,4,5,6,7,8,9,10,11],[0,1,2,3,4,5,6,7,8,9,10,11],[0,1,2,3,4,5,6,7,8,9,10,11],[0,1,2,3,4,5,6,7,8,9,10,11],[0,1,2,3,4,5,6,7],[0,1,2,3,4,5,6,7],[0,1,2,3,4,5,6,7,8,9,10,11,12,13,14,15,16,17],[0,1,2,3,4,5,6,7,8,9,10,11,12,13,14,15,16,17],[0,1,2,3,4,5,6,7,8,9,10,11,12,13,14,15,16,17],[0,1,2,3,4,5,6,7,8,9,10,11,12,13,14,15,16,17],[0,1,2,3,4,5,6,7,8,9,10,11,12,13,14,15,16,17,18,19,20,21],[0,1,2,3,4,5,6,7,8,9,10,11,12,13,14,15,16,17],[0,1,2,3,4,5,6,7,8,9,10,11,12,13,14,15,16,17],[0,1,2,3,4,5,6,7],[],[]]),(18,[[],[],[],[],[0,1,2,3],[0,1,2,3,4],[0,1,2,3,4],[0,1,2,3,4],[0,1,2,3,4],[0,1,2,3,4,5,6,7,8],[0,1,2,3,4],[0,1,2,3,4],[0,1,2,3,4,5,6,7,8,9,10,11],[0,1,2,3,4,5,6,7,8,9,10,11],[0,1,2,3,4,5,6,7,8,9,10,11],[0,1,2,3,4,5,6,7,8,9,10,11],[0,1,2,3,4,5,6,7,8,9,10,11,12,13,14,15],[0,1,2,3,4,5,6,7,8,9,10,11],[0,1,2,3,4,5,6,7,8,9,10,11],[0,1,2,3,4],[],[]])],[]⟩ ⟨aTU,aTg,trivial⟩ Tryz.func109 fun z r _ h=>(aRA z.1 z.2.1 r h).elim fun k hk=>⟨k,.trans (by kernel_rfl) hk⟩
theorem aR2:FOk Tryz.prog 110 clipIIOS:=fk {cx [] [] 9 [0,8] with rows:=[1,8] } A0 trivial Tryz.func110 fun z r _ h=>⟨0,.trans (by kernel_rfl) ((aNb z.1).trans h)⟩
theorem aUJ:FOk Tryz.prog 57 ringsS:=fk {cx [(109,ffromS),(1000000000110,clipIIOS)] [] 39 [2,10,12,14,2016001,2016002,2016003,2016004,2016006,16,38] with rows:=[2,10,12,14,38],lnks:=[(155,[1,2,3,4,6])] } ⟨[(4,(5,[.val 19 ((.int .i64)) false,.lnk 2016001 3 ((.int .i64)),.lnk 2016002 3 ((.int .i64)),.lnk 2016003 4 (.bool),.lnk 2016004 3 ((.int .i64)),.lnk 2016006 26 (aL),.box 16 155 [(eI,false),(.any,false),(.any,false),(.any,false),(.any,false),((.int .i64),false),(.any,false)]]))],[],[(2,[[],[0],[0],[0,1,2],[0,1,2],[0,1,2,3,4],[0,1,2,3,4],[],[],[]])],[]⟩ ⟨aUw,aR2,trivial⟩ Tryz.func57 fun z r _ h=>(aRf z.1 r h).elim fun k hk=>⟨k,.trans (by kernel_rfl) hk⟩
theorem aQX:FOk Tryz.prog 97 r5localS:=fk (cx [] [] 26 [2,4]) ⟨[],[],[(1,[[],[0],[0],[],[0,1,2,3],[0,1,2,3],[],[]])],[]⟩ trivial Tryz.func97 fun z r _ h=>⟨0,.trans (by kernel_rfl) h⟩
theorem aUV:FOk Tryz.prog 129 rjoinS:=fk (cx [(53,rsubS),(89,raboveS),(99,rinS)] [] 55 [4,5,6]) ⟨[(9,(4,[.val 9 ((.int .i64)) false]))],[],[(7,[[],[0],[0],[],[0,1,2,3],[0,1,2,3,4],[0,1,2,3,4],[],[],[]])],[]⟩ ⟨aNQ,aCO,aJa,trivial⟩ Tryz.func129 fun z r _ h=>(aQ2 z.1 z.2.1 z.2.2.1 r h).elim fun k hk=>⟨k,.trans (by kernel_rfl) hk⟩
theorem aSO:FOk Tryz.prog 98 r8givesS:=fk (cx [] [] 10 [1]) A0 trivial Tryz.func98 fun z r _ h=>⟨0,.trans (by kernel_rfl) h⟩
theorem aUg:FOk Tryz.prog 51 r8ruleS:=fk (cx [(45,r5fieldsS),(91,r5slotS),(97,r5localS),(98,r8givesS)] [] 218 [3,5,8,9,10,11,12]) ⟨[],[],[(5,[[],[],[0,1],[]]),(7,[[],[],[0,1],[]]),(9,[[],[],[0,1],[],[],[0,1,2,3,4],[0,1,2,3,4],[],[],[8],[]]),(11,[[],[],[0,1],[],[],[0,1,2,3,4],[0,1,2,3,4],[],[],[],[]]),(17,[[],[],[0,1],[0,1],[2,3],[]]),(19,[[],[0],[],[0,1,2],[0,1,2],[3,4],[]]),(21,[[],[],[0,1],[]]),(23,[[],[],[0,1],[0,1],[2,3],[]]),(25,[[],[0],[],[0,1,2],[0,1,2],[3,4],[]]),(29,[[],[],[0,1],[0,1],[2,3],[]]),(31,[[],[],[0,1],[0,1,2],[0,1,2],[0,1],[0,1,2,3,4,5],[0,1,2,3,4,5],[0,1,2,3,4,5,6,7],[0,1,2,3,4,5,6,7],[0,1,2,3,4,5,6,7],[0,1],[6,7,8,9,10,11],[]]),(33,[[],[0],[0,1],[0,1],[0],[0,1,2,3,4],[0,1,2,3,4],[0],[0],[],[],[]]),(35,[[],[],[0,1],[0,1],[],[],[],[0,1,2,3,4,5,6],[]]),(39,[[],[],[0,1],[0,1],[2,3],[]]),(43,[[],[],[0,1],[0,1],[],[],[],[0,1,2,3,4,5,6],[0,1,2,3,4,5,6],[0,1,2,3,4,5,6,7,8],[0,1,2,3,4,5,6,7,8],[0,1,2,3,4,5,6],[0,1,2,3,4,5,6],[0,1,2,3,4,5,6],[],[]]),(46,[[],[],[0,1],[0,1],[0,1,2,3],[0,1],[0,1],[0,1],[0,1],[],[0,1,2,3,4,5,6,7,8,9],[0,1,2,3,4,5,6,7,8,9],[0,1,2,3,4,5,6,7,8,9,10,11],[0,1,2,3,4,5,6,7,8,9],[0,1,2,3,4,5,6,7,8,9],[],[],[]]),(48,[[],[0],[],[0,1,2],[0,1,2],[3,4],[]])],[(5,[1,2,0,3]),(7,[1,2,0,3]),(9,[0,1,2,3,4,5,6,7,9,8,10]),(17,[0,1,3,4,2,5]),(19,[0,1,2,4,5,3,6]),(21,[1,2,0,3]),(23,[0,1,3,4,2,5]),(25,[0,1,2,4,5,3,6]),(29,[0,1,3,4,2,5]),(35,[1,2,3,4,5,6,7,0,8]),(39,[0,1,3,4,2,5]),(48,[0,1,2,4,5,3,6])]⟩ ⟨wP,aLP,aQX,aSO,trivial⟩ Tryz.func51 fun z r _ h=>⟨0,.trans (by kernel_rfl) h⟩
theorem aME:FOk Tryz.prog 21 r8stepS:=fk (cx [(51,r8ruleS),(52,risrefS),(53,rsubS)] [65] 196 [4,11,15,18,19]) ⟨[(21,(9,[.val 17 ((.int .i64)) false]))],[(5,(2,[.val 12 (aL) true])),(7,(2,[.val 12 (aL) true])),(9,(2,[.val 12 (aL) true])),(11,(2,[])),(14,(3,[.val 13 (aJ) false,.val 14 (aJ) false])),(14,(1,[.val 104 (.bool) false])),(17,(2,[]))],[(11,[[],[],[],[],[],[],[],[4,5,6],[4,5,6],[4,5,6,7,8],[4,5,6],[4,5,6],[4,5,6],[4,5,6],[],[]]),(16,[[],[],[0,1],[0,1,2],[0,1],[2,3,4],[]]),(23,[[],[0],[0,1],[0],[],[],[0,1,2,3,4,5],[0,1,2,3,4,5,6],[0,1,2,3,4,5],[0,1,2,3,4,5],[0,1,2,3,4,5,6,7,8,9],[0,1,2,3,4,5,6,7,8,9,10],[6,7,8,9],[]])],[(16,[0,1,3,4,5,2,6]),(23,[0,1,2,3,4,5,9,10,11,12,6,7,8,13])]⟩ ⟨aUg,aLM,aNQ,trivial⟩ Tryz.func21 fun z r _ h=>(aQg z.1 z.2.1 z.2.2.1 z.2.2.2.1 r h).elim fun k hk=>⟨k,.trans (by kernel_rfl) hk⟩
theorem aPC:FOk Tryz.prog 78 r8shapesS:=fk {cx [(21,r8stepS),(60,rtypesS),(129,rjoinS)] [119] 139 [2,27,18] with rows:=[27] } ⟨[(7,(32,[.val 8 ((.int .i64)) false,.row 27 52 (oV)])),(11,(26,[.val 9 (.bool) false,.val 10 ((.int .i64)) false,.row 27 52 (oV)])),(18,(19,[.val 9 (.bool) false,.val 14 ((.int .i64)) false,.row 27 52 (oV)])),(28,(6,[.val 16 (aJ) true,.val 17 ((.int .i64)) false]))],[],[(14,[[],[0],[0,1],[0,1,2],[0,1,2,3],[0,1,2],[0,1,2],[0,1,2],[],[],[],[10],[10,11],[11,12],[12],[]]),(30,[[],[],[0,1],[0,1,2],[0,1],[0,1],[0,1],[0,1,2,3,4,5,6],[0,1],[0,1],[0,1,2,3,4,5,6,7,8,9],[0,1,2,3,4,5,6,7,8,9,10],[0,1,2,3,4,5,6,7,8,9],[0,1,2,3,4,5,6,7,8,9],[],[0,1,2,3,4,5,6,7,8,9,10,11,12,13,14],[]])],[(14,[0,1,2,3,4,5,6,7,8,9,10,12,14,11,13,15])]⟩ ⟨aME,aMp,aUV,trivial⟩ Tryz.func78 fun z r _ h=>(aLc z.1 z.2.1 r h).elim fun k hk=>⟨k,.trans (by kernel_rfl) hk⟩
theorem aUr:FOk Tryz.prog 38 r8allS:=fk (cx [(78,r8shapesS)] [25] 30 [1]) ⟨[(3,(6,[.val 4 (bW) true,.val 5 ((.int .i64)) false]))],[],[],[]⟩ ⟨aPC,trivial⟩ Tryz.func38 fun z r _ h=>(aRT z.1 r h).elim fun k hk=>⟨k,.trans (by kernel_rfl) hk⟩
theorem aRJ:FOk Tryz.prog 121 r8frameS:=fk (cx [] [] 71 [3]) ⟨[(5,(4,[.val 7 ((.int .i64)) false,.val 8 ((.int .i64)) false]))],[(4,(5,[.val 7 ((.int .i64)) false]))],[(9,[[],[],[0,1],[],[],[],[],[],[0,1,2,3,4,5,6,7],[0,1,2,3,4,5,6,7],[0,1,2,3,4,5,6,7,8,9],[0,1,2,3,4,5,6,7],[0,1,2,3,4,5,6,7],[0,1,2,3,4,5,6,7],[0,1,2,3,4,5,6,7],[],[0,1,2,3,4,5,6,7,8,9,10,11,12,13,14,15],[],[]])],[]⟩ trivial Tryz.func121 fun z r _ h=>(aNd z.1 z.2.1 z.2.2.1 r h).elim fun k hk=>⟨k,.trans (by kernel_rfl) hk⟩
theorem aVh:FOk Tryz.prog 176 tdeepS:=fk (cx [] [] 32 [7]) ⟨[(5,(4,[.val 5 ((.int .i64)) false,.val 21 ((.int .i64)) false]))],[],[],[]⟩ trivial Tryz.func176 fun z r _ h=>(aSy z.1 z.2.1 r h).elim fun k hk=>⟨k,.trans (by kernel_rfl) hk⟩
theorem aTn:FOk Tryz.prog 120 dframeS:=fk (cx [(176,tdeepS)] [] 34 [3,7]) ⟨[],[],[(4,[[],[],[],[],[0,1,2,3],[0,1,2,3],[0,1,2,3],[],[0,1,2,3,4,5,6,7],[0,1,2,3,4,5,6,7,8],[0,1,2,3,4,5,6,7],[],[]])],[]⟩ ⟨aVh,trivial⟩ Tryz.func120 fun z r _ h=>⟨0,.trans (by kernel_rfl) h⟩
theorem aVb:FOk Tryz.prog 137 growTS:=fk {cx [] [] 27 [4,22,25,0,26] with rows:=[0,4,20,22,25,26],thaws:=[1000009,1000017,1000018] } A0 trivial Tryz.func137 fun z r _ h=>⟨0,.trans (by kernel_rfl) (aRP z.1 z.2.1 r h)⟩
theorem aDV:FOk Tryz.prog 94 concatTS:=fk {cx [(137,growTS)] [31] 36 [24,6,33] with rows:=[6,33] } ⟨[(3,(6,[.val 3 ((.int .i64)) false,.val 11 ((.int .i64)) false])),(11,(4,[.own 6 39 (cI),.val 27 ((.int .i64)) false]))],[],[],[]⟩ ⟨aVb,trivial⟩ Tryz.func94 fun z r _ h=>(aNL z.1 r h).elim fun k hk=>⟨k,.trans (by kernel_rfl) hk⟩
theorem aTt:FOk Tryz.prog 136 indexIS:=fk (cx [] [] 19 []) ⟨[(2,(5,[.val 8 ((.int .i64)) false]))],[],[],[]⟩ trivial Tryz.func136 fun z r hl h=>(aO7 z.1 z.2.1 hl).elim fun k hk=>⟨k,.trans (by kernel_rfl) (hk.trans h)⟩
theorem aAC:FOk Tryz.prog 93 containsIS:=fk (cx [(136,indexIS)] [] 9 []) A0 ⟨aTt,trivial⟩ Tryz.func93 fun z r hl h=>⟨0,.trans (by kernel_rfl) ((aIW z.1 z.2.1 hl).trans h)⟩
theorem aU7:FOk Tryz.prog 50 clipQS:=fk (cx [] [] 9 []) A0 trivial Tryz.func50 fun z r _ h=>⟨0,.trans (by kernel_rfl) ((aSd z.1).trans h)⟩
theorem aUe:FOk Tryz.prog 119 clipSSS:=fk (cx [] [] 9 []) A0 trivial Tryz.func119 fun z r _ h=>⟨0,.trans (by kernel_rfl) ((aPv z.1).trans h)⟩
theorem aVV:FOk Tryz.prog 134 cupS:=fk (cx [] [] 19 [2]) A0 trivial Tryz.func134 fun z r _ h=>⟨0,.trans (by kernel_rfl) (aVl z.1 z.2.1 r h)⟩
theorem aI9:FOk Tryz.prog 86 cfieldsS:=fk (cx [(94,concatTS),(134,cupS)] [] 26 [2]) ⟨[(4,(3,[.val 1 ((.int .i64)) false,.val 5 (aJ) false]))],[],[],[]⟩ ⟨aDV,aVV,trivial⟩ Tryz.func86 fun z r _ h=>(aNo z.1 z.2.1 r h).elim fun k hk=>⟨k,.trans (by kernel_rfl) hk⟩
theorem aUu:FOk Tryz.prog 43 csizeS:=fk (cx [(86,cfieldsS)] [] 10 [2]) A0 ⟨aI9,trivial⟩ Tryz.func43 fun z r _ h=>⟨0,.trans (by kernel_rfl) (aSc z.1 z.2.1 r h)⟩
theorem aS3:FOk Tryz.prog 140 clocalS:=fk (cx [] [] 40 [2,4]) A0 trivial Tryz.func140 fun z r _ h=>⟨0,.trans (by kernel_rfl) (aPt z.1 z.2.1 r h)⟩
theorem aUB:FOk Tryz.prog 213 kjoinS:=fk (cx [(135,kbelowS),(144,ksubS),(180,kupS)] [] 47 [4,5,6]) ⟨[(8,(4,[.val 7 ((.int .i64)) false]))],[],[],[]⟩ ⟨aFZ,aNy,aUY,trivial⟩ Tryz.func213 fun z r _ h=>(aSo z.1 z.2.1 z.2.2.1 r h).elim fun k hk=>⟨k,.trans (by kernel_rfl) hk⟩
theorem aVf:FOk Tryz.prog 184 numIsS:=fk (cx [] [] 9 []) A0 trivial Tryz.func184 fun z r _ h=>⟨0,.trans (by kernel_rfl) ((aQY z.1).trans h)⟩
theorem aQ9:FOk Tryz.prog 182 fnumberS:=fk (cx [] [] 2 [0]) A0 trivial Tryz.func182 fun z r _ h=>⟨0,.trans (by kernel_rfl) h⟩
theorem aTu:FOk Tryz.prog 183 farrayS:=fk (cx [] [] 2 [0]) A0 trivial Tryz.func183 fun z r _ h=>⟨0,.trans (by kernel_rfl) h⟩
theorem aR0:FOk Tryz.prog 141 fobjectS:=fk (cx [] [] 5 [2]) A0 trivial Tryz.func141 fun z r _ h=>⟨0,.trans (by kernel_rfl) h⟩
theorem aR6:FOk Tryz.prog 181 fplain1S:=fk (cx [] [] 4 []) A0 trivial Tryz.func181 fun z r _ h=>⟨0,.trans (by kernel_rfl) h⟩
theorem aVz:FOk Tryz.prog 139 fof1S:=fk (cx [] [] 5 [1]) A0 trivial Tryz.func139 fun z r _ h=>⟨0,.trans (by kernel_rfl) h⟩
theorem aRc:FOk Tryz.prog 142 fcalledS:=fk (cx [(94,concatTS)] [] 24 [2,4,5]) A0 ⟨aDV,trivial⟩ Tryz.func142 fun z r _ h=>⟨0,.trans (by kernel_rfl) (aNG z.1 z.2.1 r h)⟩
theorem aT0:FOk Tryz.prog 138 fplainS:=fk (cx [(181,fplain1S),(182,fnumberS),(183,farrayS),(184,numIsS)] [] 118 [2,5]) A0 ⟨aR6,aQ9,aTu,aVf,trivial⟩ Tryz.func138 fun z r _ h=>⟨0,.trans (by kernel_rfl) ((aPc z.1).trans h)⟩
theorem aVU:FOk Tryz.prog 95 fofS:=fk (cx [(86,cfieldsS),(88,cslotS),(138,fplainS),(139,fof1S),(140,clocalS),(141,fobjectS),(142,fcalledS)] [] 163 [3,4,6,7,8]) ⟨[],[],[(14,[[],[0],[0],[0],[],[0,1,2,3,4],[0,1,2,3,4,5],[0,1,2,3,4,5,6],[0,1,2,3,4,5,6],[5],[0,1,2,3,4,5,6,7,8,9],[0,1,2,3,4,5,6,7,8,9],[5],[5],[],[],[]]),(16,[[],[],[],[0,1,2],[0,1,2,3],[0,1,2,3],[],[0,1,2,3,4,5,6],[0,1,2,3,4,5,6],[],[],[],[],[]]),(25,[[],[],[0,1],[],[],[0,1,2,3,4],[0,1,2,3,4,5],[0,1,2,3,4,5],[0,1,2,3,4,5],[0,1,2,3,4],[],[]]),(27,[[],[0],[],[0,1,2],[0,1,2,3],[0,1,2,3],[3],[],[],[]])],[]⟩ ⟨aI9,aQM,aT0,aVz,aS3,aR0,aRc,trivial⟩ Tryz.func95 fun z r _ h=>⟨0,.trans (by kernel_rfl) (aVo z.1 z.2.1 z.2.2.1 r h)⟩
theorem aUU:FOk Tryz.prog 96 ffitsS:=fk (cx [(143,kisrefS),(144,ksubS)] [] 33 [4,6,7]) A0 ⟨aMh,aNy,trivial⟩ Tryz.func96 fun z r _ h=>⟨0,.trans (by kernel_rfl) ((aSw z.1 z.2.1 z.2.2.1 z.2.2.2.1).trans h)⟩
theorem aTB:FOk Tryz.prog 92 fnextsS:=fk (cx [] [] 24 [2]) A0 trivial Tryz.func92 fun z r _ h=>⟨0,.trans (by kernel_rfl) ((aP4 z.1 z.2.1).trans h)⟩
theorem aP1:FOk Tryz.prog 49 fstepS:=fk (cx [(92,fnextsS),(93,containsIS),(94,concatTS),(95,fofS),(96,ffitsS)] [] 130 [4,11,12,15]) ⟨[(16,(5,[.val 9 (aL) false,.val 104 ((.int .i64)) false]))],[],[(18,[[],[0],[0],[0,1,2],[0,1,2,3],[0,1,2,3,4],[0,1,2,3],[0,1,2],[0,1,2],[0,1,2,3,4,5,6,7,8],[],[]]),(21,[[],[0],[],[0,1,2],[0,1,2],[],[],[0,1,2,3,4,5,6],[7],[],[]])],[(21,[0,1,2,3,4,5,6,8,7,9,10])]⟩ ⟨aTB,aAC,aDV,aVU,aUU,trivial⟩ Tryz.func49 fun z r _ h=>(aSB z.1 z.2.1 z.2.2.1 z.2.2.2.1 r h).elim fun k hk=>⟨k,.trans (by kernel_rfl) hk⟩
theorem aTj:FOk Tryz.prog 204 tmergeS:=fk {cx [(145,clipTS),(146,cloneTS),(202,eqTS),(213,kjoinS)] [] 63 [3,4,6,28,9,11] with rows:=[9,28],thaws:=[1000056] } ⟨[(7,(6,[.val 31 ((.int .i64)) false,.row 9 39 (cI)]))],[],[(9,[[],[0],[0,1],[0,1],[0,1,2,3],[0,1,2,3],[0,1,2,3,4,5],[0,1,2,3],[0,1,2,3],[0,1,2,3,4,5,6,7,8],[0,1],[],[]])],[]⟩ ⟨aIt,aL8,aUW,aUB,trivial⟩ Tryz.func204 fun z r _ h=>(aPV z.1 z.2.1 z.2.2.1 r h).elim fun k hk=>⟨k,.trans (by kernel_rfl) hk⟩
theorem aVA:FOk Tryz.prog 175 toneS:=fk (cx [(49,fstepS),(204,tmergeS)] [] 62 [1000003,1000004,5,16]) ⟨[(5,(8,[.val 36 ((.int .i64)) false,.row 1000003 52 (oV),.row 1000004 4 (.bool)]))],[],[(1,[[],[0],[0,1],[0,1,2],[0,1,2,3],[0,1,2],[0,1,2],[0,1,2],[],[],[],[10],[10,11],[11,12],[12],[]]),(7,[[],[0],[0,1],[0],[0],[0,1,2,3,4],[],[],[],[8],[8,9],[0,1,2,3,4,5,6,7,8,9,10],[9,10],[10],[]])],[(1,[0,1,2,3,4,5,6,7,8,9,10,12,14,11,13,15]),(7,[0,1,2,3,4,5,6,7,8,11,13,9,10,12,14])]⟩ ⟨aP1,aTj,trivial⟩ Tryz.func175 fun z r _ h=>(aS9 z.1 z.2.1 z.2.2.1 z.2.2.2.1 z.2.2.2.2.1 r h).elim fun k hk=>⟨k,.trans (by kernel_rfl) hk⟩
theorem aSe:FOk Tryz.prog 118 tmethodS:=fk {cx [(1000000000175,toneS)] [] 52 [2,18,7,27,8] with rows:=[7,8,18,27] } ⟨[(7,(9,[.row 7 52 (oV),.row 8 4 (.bool)])),(8,(7,[.val 32 ((.int .i64)) false]))],[],[],[]⟩ ⟨aVA,trivial⟩ Tryz.func118 fun z r _ h=>(aM7 z.1 z.2.1 r h).elim fun k hk=>⟨k,.trans (by kernel_rfl) hk⟩
theorem aS6:FOk Tryz.prog 63 tcheckS:=fk (cx [(118,tmethodS),(119,clipSSS)] [28] 35 [1]) ⟨[(2,(7,[.val 2 (bW) true,.val 13 ((.int .i64)) false]))],[],[],[]⟩ ⟨aSe,aUe,trivial⟩ Tryz.func63 fun z r _ h=>(aQt z.1 r h).elim fun k hk=>⟨k,.trans (by kernel_rfl) hk⟩
theorem aVH:FOk Tryz.prog 112 cyc1S:=fk (cx [(93,containsIS)] [] 7 []) A0 ⟨aAC,trivial⟩ Tryz.func112 fun z r hl h=>⟨0,.trans (by kernel_rfl) ((aTI z.1 z.2.1 hl).trans h)⟩
theorem aQm:FOk Tryz.prog 85 indexCycS:=fk (cx [(112,cyc1S)] [] 19 []) ⟨[(2,(5,[.val 8 ((.int .i64)) false]))],[],[],[]⟩ ⟨aVH,trivial⟩ Tryz.func85 fun z r hl h=>(aK6 z.1 z.2.1 hl).elim fun k hk=>⟨k,.trans (by kernel_rfl) (hk.trans h)⟩
theorem aIv:FOk Tryz.prog 41 containsCycS:=fk (cx [(114000085,indexCycS)] [] 9 []) A0 ⟨aQm,trivial⟩ Tryz.func41 fun z r hl h=>⟨0,.trans (by kernel_rfl) ((aGm z.1 z.2.1 hl).trans h)⟩
theorem aUa:FOk Tryz.prog 59 cyclicS:=fk {cx [(114000041,containsCycS)] [] 28 [3] with thaws:=[1000003] } ⟨[(2,(6,[.val 9 ((.int .i64)) false]))],[],[],[]⟩ ⟨aIv,trivial⟩ Tryz.func59 fun z r _ h=>(aOv z.1 z.2.1 r h).elim fun k hk=>⟨k,.trans (by kernel_rfl) hk⟩
theorem aUf:FOk Tryz.prog 64 dboundS:=fk {cx [(56,cofS),(57,ringsS),(59,cyclicS),(93,containsIS),(120,dframeS)] [27] 113 [2,37,8] with rows:=[8,37] } ⟨[(3,(4,[.val 6 (eI) true,.val 24 ((.int .i64)) false])),(9,(26,[.val 41 ((.int .i64)) false,.row 8 3 ((.int .i64))])),(14,(15,[.val 12 ((.int .i64)) false,.val 13 ((.int .i64)) false,.val 50 ((.int .i64)) false])),(23,(5,[.val 13 ((.int .i64)) false,.val 76 ((.int .i64)) false])),(30,(4,[.val 100 ((.int .i64)) false,.row 8 3 ((.int .i64))]))],[(17,(2,[.val 16 ((.int .i64)) false]))],[],[]⟩ ⟨aVR,aUJ,aUa,aAC,aTn,trivial⟩ Tryz.func64 fun z r _ h=>(aPn z.1 z.2.1 r h).elim fun k hk=>⟨k,.trans (by kernel_rfl) hk⟩
theorem aUD:FOk Tryz.prog 132 mul64S:=fk (cx [] [] 51 []) A0 trivial Tryz.func132 fun z r _ h=>⟨0,.trans (by kernel_rfl) (aQ4 z.1 z.2.1 r h)⟩
theorem aSp:FOk Tryz.prog 82 lofS:=fk (cx [] [] 11 [2]) A0 trivial Tryz.func82 fun z r _ h=>⟨0,.trans (by kernel_rfl) ((aUL z.1).trans h)⟩
theorem aUO:FOk Tryz.prog 133 lsizeS:=fk (cx [] [] 10 []) A0 trivial Tryz.func133 fun z r _ h=>⟨0,.trans (by kernel_rfl) ((aSk z.1).trans h)⟩
theorem aUQ:FOk Tryz.prog 83 lplusS:=fk (cx [(82,lofS)] [] 20 [2,3,4]) A0 ⟨aSp,trivial⟩ Tryz.func83 fun z r _ h=>⟨0,.trans (by kernel_rfl) (aQT z.1 z.2.1 r h)⟩
theorem aUb:FOk Tryz.prog 84 ltimesS:=fk (cx [(82,lofS),(132,mul64S),(133,lsizeS)] [] 39 [2,3,4]) ⟨[],[],[(3,[[],[],[],[0,1,2],[0,1,2],[],[],[],[],[8],[9],[]])],[(3,[0,1,2,3,4,5,6,7,8,10,9,11])]⟩ ⟨aSp,aUD,aUO,trivial⟩ Tryz.func84 fun z r _ h=>⟨0,.trans (by kernel_rfl) (aOJ z.1 z.2.1 r h)⟩
theorem aUn:FOk Tryz.prog 40 lholdsS:=fk (cx [(82,lofS),(83,lplusS),(84,ltimesS)] [] 43 [2,6]) ⟨[(5,(4,[.val 19 ((.int .i64)) false,.box 6 130 [((.int .i64),false),(.bool,false)]]))],[],[(7,[[],[0],[0],[0,1,2],[0,1,2,3],[0,1,2],[0,1,2],[0],[0],[],[]])],[]⟩ ⟨aSp,aUQ,aUb,trivial⟩ Tryz.func40 fun z r _ h=>(aPR z.1 z.2.1 r h).elim fun k hk=>⟨k,.trans (by kernel_rfl) hk⟩
theorem aT6:FOk Tryz.prog 48 pshapeS:=fk (cx [] [] 28 [6]) A0 trivial Tryz.func48 fun z r _ h=>⟨0,.trans (by kernel_rfl) (aQf z.1 z.2.1 z.2.2.1 r h)⟩
theorem aUM:FOk Tryz.prog 17 pcostS:=fk (cx [(43,csizeS),(44,ctargetsS)] [] 50 [2,3]) ⟨[(8,(5,[.val 5 ((.int .i64)) false,.val 27 ((.int .i64)) false]))],[],[],[]⟩ ⟨aUu,aG3,trivial⟩ Tryz.func17 fun z r _ h=>(aSl z.1 z.2.1 r h).elim fun k hk=>⟨k,.trans (by kernel_rfl) hk⟩
theorem aVE:FOk Tryz.prog 47 prowS:=fk {cx [] [] 33 [2008000,8,11,2009000,9] with rows:=[11],thaws:=[32],lnks:=[(49,[0])] } A0 trivial Tryz.func47 fun z r _ h=>⟨0,.trans (by kernel_rfl) (aUq z.1 z.2.1 z.2.2.1 z.2.2.2.1 r h)⟩
theorem aTm:FOk Tryz.prog 19 prulesS:=fk (cx [(17,pcostS),(47,prowS),(48,pshapeS),(49,fstepS),(50,clipQS)] [81,94] 110 [3,10,11]) ⟨[(6,(14,[.val 8 (oH) true,.val 54 ((.int .i64)) false])),(15,(4,[.val 8 (oH) true,.val 90 ((.int .i64)) false]))],[(12,(2,[.val 8 (oH) true]))],[],[]⟩ ⟨aUM,aVE,aT6,aP1,aU7,trivial⟩ Tryz.func19 fun z r _ h=>(aON z.1 z.2.1 z.2.2.1 r h).elim fun k hk=>⟨k,.trans (by kernel_rfl) hk⟩
theorem aVG:FOk Tryz.prog 42 pnegS:=fk (cx [] [] 5 []) A0 trivial Tryz.func42 fun z r _ h=>⟨0,.trans (by kernel_rfl) h⟩
theorem aPf:FOk Tryz.prog 85 indexNegS:=fk (cx [(42,pnegS)] [] 19 []) ⟨[(2,(5,[.val 8 ((.int .i64)) false]))],[],[],[]⟩ ⟨aVG,trivial⟩ Tryz.func85 fun z r hl h=>(aLp z.1 z.2.1 hl).elim fun k hk=>⟨k,.trans (by kernel_rfl) (hk.trans h)⟩
theorem aIQ:FOk Tryz.prog 41 containsNegS:=fk (cx [(44000085,indexNegS)] [] 9 []) A0 ⟨aPf,trivial⟩ Tryz.func41 fun z r hl h=>⟨0,.trans (by kernel_rfl) ((aGq z.1 z.2.1 hl).trans h)⟩
theorem aTJ:FOk Tryz.prog 15 pcheckS:=fk (cx [(19,prulesS),(40,lholdsS),(44000041,containsNegS)] [] 49 [2,7,9]) ⟨[(2,(12,[.val 15 ((.int .i64)) false])),(5,(6,[.val 25 ((.int .i64)) false]))],[],[],[]⟩ ⟨aTm,aUn,aIQ,trivial⟩ Tryz.func15 fun z r _ h=>(aOF z.1 z.2.1 r h).elim fun k hk=>⟨k,.trans (by kernel_rfl) hk⟩
theorem aLY:FOk Tryz.prog 31 aneedsS:=fk (cx [(64,dboundS)] [] 56 [2]) ⟨[(6,(5,[.val 4 ((.int .i64)) false,.val 8 ((.int .i64)) false,.val 23 ((.int .i64)) false]))],[(8,(1,[.val 34 (.bool) false]))],[(9,[[],[0],[0,1],[0],[0],[],[0,1,2,3,4,5],[0,1,2,3,4,5,6],[0,1,2,3,4,5,6],[0,1,2,3,4,5,6,7,8],[0,1,2,3,4,5,6],[0,1,2,3,4,5,6],[0,1,2,3,4,5,6],[0,1,2,3,4,5],[6,7,8,9,10,11,12,13],[]]),(11,[[],[0],[0],[0],[0,1,2,3],[0],[1,2,3,4,5],[],[]])],[(11,[0,1,2,3,5,6,4,7,8])]⟩ ⟨aUf,trivial⟩ Tryz.func31 fun z r _ h=>(aOL z.1 z.2.1 r h).elim fun k hk=>⟨k,.trans (by kernel_rfl) hk⟩
theorem aFW:FOk Tryz.prog 29 acheckS:=fk (cx [(15,pcheckS),(31,aneedsS),(62,scheckS),(63,tcheckS)] [] 58 [1]) A0 ⟨aTJ,aLY,aT5,aS6,trivial⟩ Tryz.func29 fun z r _ h=>⟨0,.trans (by kernel_rfl) h⟩
theorem aS4:FOk Tryz.prog 36 abytesS:=fk (cx [(29,acheckS),(77,idecodeS)] [] 28 [2,5]) A0 ⟨aFW,aRh,trivial⟩ Tryz.func36 fun z r _ h=>⟨0,.trans (by kernel_rfl) h⟩
theorem aIp:FOk Tryz.prog 18 r14costS:=fk (cx [(45,r5fieldsS),(46,r8targetsS)] [] 53 [2,3]) ⟨[(8,(4,[.val 5 ((.int .i64)) false,.val 7 ((.int .i64)) false]))],[],[(10,[[],[],[0,1],[0,1,2],[0,1],[0,1],[],[],[],[0,1,2,3,4,5,6,7,8],[]]),(11,[[],[],[0,1],[0,1,2],[0,1],[0,1],[],[],[],[]])],[]⟩ ⟨wP,aFd,trivial⟩ Tryz.func18 fun z r _ h=>(aNS z.1 z.2.1 r h).elim fun k hk=>⟨k,.trans (by kernel_rfl) hk⟩
theorem aRE:FOk Tryz.prog 28 awake16S:=fk (cx [(18,r14costS),(26,r8edgesS),(29,acheckS),(31,aneedsS),(34,r5fitsS),(36,abytesS)] [] 92 [1,9]) ⟨[],[],[(7,[[],[],[],[],[],[],[],[],[],[],[],[],[],[],[],[],[],[],[],[],[],[],[],[],[],[],[],[],[],[],[],[],[],[],[],[],[],[],[],[38],[38],[38],[38],[38],[38],[38],[],[],[],[]])],[]⟩ ⟨aIp,aJ6,aFW,aLY,aL2,aS4,trivial⟩ Tryz.func28 fun z r _ h=>⟨0,.trans (by kernel_rfl) h⟩
theorem aRU:FOk Tryz.prog 27 small16S:=fk (cx [] [] 53 [1,4]) ⟨[(4,(5,[.val 3 ((.int .i64)) false]))],[],[],[]⟩ trivial Tryz.func27 fun z r hl h=>(aOa z.1 hl).elim fun k hk=>⟨k,.trans (by kernel_rfl) (hk.trans h)⟩
theorem aR4:FOk Tryz.prog 65 r8boundS:=fk {cx [(25,r8waysS),(26,r8edgesS),(121,r8frameS)] [] 150 [2,48] with rows:=[48] } ⟨[(5,(4,[.val 9 ((.int .i64)) false])),(11,(21,[.val 11 ((.int .i64)) false,.row 48 3 ((.int .i64))])),(14,(18,[.val 12 ((.int .i64)) false,.row 48 3 ((.int .i64))])),(18,(13,[.val 13 ((.int .i64)) false,.val 14 ((.int .i64)) false,.val 15 ((.int .i64)) false])),(26,(5,[.val 14 ((.int .i64)) false,.val 17 ((.int .i64)) false]))],[(20,(11,[.val 13 ((.int .i64)) false,.val 14 ((.int .i64)) false])),(20,(1,[.val 85 (.bool) false])),(22,(2,[.val 16 ((.int .i64)) false]))],[],[]⟩ ⟨aTC,aJ6,aRJ,trivial⟩ Tryz.func65 fun z r _ h=>(aNe z.1 z.2.1 r h).elim fun k hk=>⟨k,.trans (by kernel_rfl) hk⟩
theorem aRD:FOk Tryz.prog 16 r14potsS:=fk (cx [(18,r14costS),(21,r8stepS)] [] 93 [2,6]) ⟨[(2,(15,[.val 5 ((.int .i64)) false])),(8,(9,[.val 7 ((.int .i64)) false])),(13,(4,[.val 11 ((.int .i64)) false]))],[],[(5,[[],[],[],[],[0,1,2,3],[0,1,2,3],[]]),(11,[[],[0],[0,1],[0,1,2],[0,1,2,3],[0,1,2],[0,1,2],[0,1,2,3,4,5,6],[0,1,2],[0,1,2],[0,1,2],[],[],[],[13],[13,14],[14,15],[15],[]]),(15,[[],[],[0,1],[],[],[0,1,2,3,4],[0,1,2,3,4,5],[0,1,2,3,4,5],[0,1,2,3,4,5,6,7],[0,1,2,3,4,5],[0,1,2,3,4,5],[0,1,2,3,4],[0,1,2,3,4,5,6,7,8,9,10,11],[0,1,2,3,4,5,6,7,8,9,10,11],[0,1,2,3,4,5,6,7,8,9,10,11,12,13],[0,1,2,3,4,5,6,7,8,9,10,11,12,13,14],[0,1,2,3,4,5,6,7,8,9,10,11,12,13],[0,1,2,3,4,5,6,7,8,9,10,11,12,13],[0,1,2,3,4,5,6,7,8,9,10,11],[0,1,2,3,4,5,6,7,8,9,10,11],[0,1,2,3,4],[]])],[(11,[0,1,2,3,4,5,6,7,8,9,10,11,12,13,15,17,14,16,18])]⟩ ⟨aIp,aME,trivial⟩ Tryz.func16 fun z r _ h=>(aN4 z.1 z.2.1 r h).elim fun k hk=>⟨k,.trans (by kernel_rfl) hk⟩
theorem aHJ:FOk Tryz.prog 32 r14needsS:=fk (cx [(65,r8boundS)] [] 63 [2]) ⟨[(6,(7,[.val 9 ((.int .i64)) false,.val 10 ((.int .i64)) false,.val 11 ((.int .i64)) false]))],[(9,(2,[.val 9 ((.int .i64)) false]))],[(13,[[],[0],[0],[0],[0,1,2,3],[0],[1,2,3,4,5],[],[]])],[(13,[0,1,2,3,5,6,4,7,8])]⟩ ⟨aR4,trivial⟩ Tryz.func32 fun z r _ h=>(aKR z.1 z.2.1 r h).elim fun k hk=>⟨k,.trans (by kernel_rfl) hk⟩
theorem aQK:FOk Tryz.prog 30 r14admitS:=fk (cx [(16,r14potsS),(32,r14needsS),(38,r8allS),(39,r5saneS)] [] 46 [1]) A0 ⟨aRD,aHJ,aUr,aTk,trivial⟩ Tryz.func30 fun z r _ h=>⟨0,.trans (by kernel_rfl) h⟩
theorem aIr (hl:∀z,aCU Tryz.prog oU z→uV z.1=some (true,())):FOk Tryz.prog 10 admitQuotasS:=fk (cx [(27,small16S),(28,awake16S),(29,acheckS),(30,r14admitS),(32,r14needsS)] [] 77 [1]) ⟨[],[(12,(6,[.box 1 28 [(dM,false),(aJ,false),(fQ,false),(gQ,false),(aL,false),((.int .i64),false),((.int .i64),false)]]))],[],[]⟩ ⟨aRU,aRE,aFW,aQK,aHJ,trivial⟩ Tryz.func10 fun z r _ h=>by
 by_cases hw:aCU Tryz.prog oU z
 ·exact⟨0,.trans (by kernel_rfl) ((hl z hw).trans ((if_pos hw).symm.trans h))⟩
 ·have hn:admitQuotasS.run z=none:=if_neg hw
  rw[hn] at h
  cases h
end
end Go.Pli
