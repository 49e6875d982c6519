import Derived.Test.YtcofionghgmldaaGreatPliTy
import Derived.Test.YtcofionghgmldaaGreatPMSort
import Derived.Test.YtcofionghgmldaaGreatPliReach
import Derived.Test.YtcofionghgmldaaGreatPliLib13
import Derived.Test.YtcofionghgmldaaGreatPMKit
import Derived.Test.YtcofionghgmldaaGreatPMSaid
import Derived.Test.YtcofionghgmldaaGreatProg
import Derived.KernelRfl
namespace Go.Pli
open Go Go.PM
open Go.Proofs
abbrev cH:Ty:= .pair (.int .i64) (.pair (.int .i64) .unit)
abbrev aJ:Ty:= .sl 39 cH
abbrev gE:Ty:= .sl 21 (.int .i32)
abbrev aN:Ty:= .sl 3 (.int .i64)
abbrev jB:Ty:= .pair (.int .i64) cH
abbrev eT:Ty:= .sl 45 jB
abbrev gA:Ty:= .sl 5 (.int .u8)
abbrev aIj:Ty:= .pair (.int .i64) (.pair aJ (.pair aN .unit))
abbrev dQ:Ty:= .sl 106 aIj
abbrev kD:Ty:= .pair aJ (.pair aJ (.pair cH (.pair eT (.pair (.int .i64) (.pair (.int .i64) (.pair aN .unit))))))
abbrev iO:Ty:= .sl 42 kD
abbrev eH:Ty:= .sl 26 aN
abbrev pK:Ty:= .pair .bool (.pair aJ .unit)
abbrev aAO:Ty:= .sl 52 pK
abbrev bO:Ty:= .sl 53 aAO
abbrev aH7:Ty:= .pair aN (.pair (.int .i64) .unit)
abbrev nT:Ty:= .sl 49 aH7
abbrev bB:Ty:= .pair dQ (.pair aJ (.pair gE (.pair iO (.pair aN cH))))
abbrev xI:Ty:= .sl 23 aJ
abbrev aGj:Ty:= .sl 4 .bool
abbrev aFp:Ty:= .sl 66 aGj
abbrev aQx:Ty:= .sl 188 cH
def A0:Ann:=⟨[],[],[],[]⟩
def TY:List (TypeId×Ty):=[(3,(.int .i64)),(4,.bool),(5,(.int .u8)),(9,.str),(21,(.int .i32)),(22,dQ),(23,aJ),(24,gE),(25,iO),(26,aN),(28,bB),(29,bO),(39,cH),(40,eT),(42,kD),(45,jB),(46,nT),(49,aH7),(52,pK),(53,aAO),(62,aFp),(64,eH),(66,aGj),(74,gA),(95,.any),(106,aIj),(130,(.pair (.int .i64) (.pair .bool .unit))),(141,(.pair aJ (.pair aJ .unit))),(155,(.pair eH (.pair aN (.pair aN (.pair aGj (.pair aN (.pair (.int .i64) (.pair eH .unit)))))))),(172,(.int .u64)),(178,xI),(188,cH),(189,aQx),(204,(.pair gA (.pair .bool .unit))),(208,(.int .u32))]
theorem aVI:aRa Tryz.prog TY=true:=by kernel_rfl
def cx (fns:List (FuncId×FSpec)) (tips:List Nat) (n:Nat) (bxs:List Nat):Ctx:={ty:=TY,fns:=fns,tips:=tips,n:=n,bxs:=bxs,ptrs:=[] }
theorem fk (G:Ctx) {f:FuncId} {fn:Func} (A:Ann) {S:FSpec} (h3:FnsOk Tryz.prog G.fns) (hf:Tryz.prog.funcs[f]? =some fn) (h:∀z r,aFk S.ps z→S.run z=some r→∃k,aH5 G A k fn S.ps S.rs z=some r) (h1:G.ty=TY:=by rfl) (h2:G.ptrs.all (aSi Tryz.prog)=true:=by kernel_rfl) (hb:fn.body.isSome=true:=by kernel_rfl) (hn:(fn.name=="runtime.NumGoroutine")=false:=by kernel_rfl) (h4:G.sets.all (aRC Tryz.prog)=true:=by rfl):FOk Tryz.prog f S:=fok (aVn (by rw[h1];exact aVI) h2 h3 h4) hf hb hn h
noncomputable section
def indexClassS:FSpec:=⟨[.val (dQ),.val ((.clo 158 .unit))],[.val ((.int .i64))],fun z=>some (tF z.1 z.2.1,())⟩
def containsClassS:FSpec:=⟨[.val (dQ),.val ((.clo 158 .unit))],[.val (.bool)],fun z=>some (kN z.1 z.2.1,())⟩
def indexMethodS:FSpec:=⟨[.val (iO),.val ((.clo 161 .unit))],[.val ((.int .i64))],fun z=>some (rB z.1 z.2.1,())⟩
def containsMethodS:FSpec:=⟨[.val (iO),.val ((.clo 161 .unit))],[.val (.bool)],fun z=>some (jN z.1 z.2.1,())⟩
def indexTypesS:FSpec:=⟨[.val (aJ),.val ((.clo 196 .unit))],[.val ((.int .i64))],fun z=>some (sV z.1 z.2.1,())⟩
def containsTypesS:FSpec:=⟨[.val (aJ),.val ((.clo 196 .unit))],[.val (.bool)],fun z=>some (kQ z.1 z.2.1,())⟩
def indexEntryS:FSpec:=⟨[.val (aJ),.val ((.clo 174 (.pair (.clo 172 .unit) .unit)))],[.val ((.int .i64))],fun z=>some (tJ z.1 z.2.1,())⟩
def containsEntryS:FSpec:=⟨[.val (aJ),.val ((.clo 174 (.pair (.clo 172 .unit) .unit)))],[.val (.bool)],fun z=>some (iS z.1 z.2.1,())⟩
def indexNumsS:FSpec:=⟨[.val (aN),.val ((.clo 201 (.pair (.int .i64) .unit)))],[.val ((.int .i64))],fun z=>some (wA z.1 z.2.1,())⟩
def containsNumsS:FSpec:=⟨[.val (aN),.val ((.clo 201 (.pair (.int .i64) .unit)))],[.val (.bool)],fun z=>some (lY z.1 z.2.1,())⟩
def newS:FSpec:=⟨[.val (gA)],[.box 204 ((.pair gA (.pair .bool .unit)))],fun z=>some (aN4 z.1,())⟩
def nextS:FSpec:=⟨[.box 204 ((.pair gA (.pair .bool .unit)))],[.val ((.int .u64)),.val (.bool)],fun z=>next z.1⟩
def getS:FSpec:=⟨[.box 204 ((.pair gA (.pair .bool .unit))),.val ((.int .i64))],[.val ((.int .i64))],fun z=>dC z.1 z.2.1⟩
def glongS:FSpec:=⟨[.box 204 ((.pair gA (.pair .bool .unit)))],[.val ((.int .i32))],fun z=>yV z.1⟩
def finS:FSpec:=⟨[.box 204 ((.pair gA (.pair .bool .unit)))],[.val (.bool)],fun z=>aOc z.1⟩
def rinS:FSpec:=⟨[.val (aN),.val ((.int .i64))],[.val (.bool)],fun z=>rin z.1 z.2.1⟩
def rargsS:FSpec:=⟨[.val ((.int .i64))],[.val ((.int .i64))],fun z=>some (vQ z.1,())⟩
def iargsS:FSpec:=⟨[.val ((.int .i64))],[.val ((.int .i64))],fun z=>some (cQ z.1,())⟩
def withinS:FSpec:=⟨[.val ((.int .i64)),.val ((.int .i64)),.val ((.int .i64))],[.val (.bool)],fun z=>some (kV z.1 z.2.1 z.2.2.1,())⟩
def igoodS:FSpec:=⟨[.val (jB)],[.val (.bool)],fun z=>some (dO z.1,())⟩
def igetS:FSpec:=⟨[.box 204 ((.pair gA (.pair .bool .unit)))],[.val (jB)],fun z=>aIf z.1⟩
def rinstrS:FSpec:=⟨[.val (jB)],[.val (.bool)],fun z=>some (aBw z.1,())⟩
def clipCS:FSpec:=⟨[.val (dQ)],[.val (dQ)],fun z=>some (idL z.1,())⟩
def clipMS:FSpec:=⟨[.val (iO)],[.val (iO)],fun z=>some (idL z.1,())⟩
def clipTS:FSpec:=⟨[.val (aJ)],[.val (aJ)],fun z=>some (idL z.1,())⟩
def clipIS:FSpec:=⟨[.val (aN)],[.val (aN)],fun z=>some (idL z.1,())⟩
def clipXS:FSpec:=⟨[.val (eT)],[.val (eT)],fun z=>some (idL z.1,())⟩
def clipJS:FSpec:=⟨[.val (gE)],[.val (gE)],fun z=>some (idL z.1,())⟩
def cloneTS:FSpec:=⟨[.val (aJ)],[.val (aJ)],fun z=>qD z.1⟩
def cloneJS:FSpec:=⟨[.val (gE)],[.val (gE)],fun z=>aCH z.1⟩
def cloneIS:FSpec:=⟨[.val (aN)],[.val (aN)],fun z=>aCx z.1⟩
def cloneXS:FSpec:=⟨[.val (eT)],[.val (eT)],fun z=>aCQ z.1⟩
def anTS:FSpec:=⟨[.val (aJ)],[.val (aJ)],fun z=>aEb z.1⟩
def anJS:FSpec:=⟨[.val (gE)],[.val (gE)],fun z=>aMY z.1⟩
def anIS:FSpec:=⟨[.val (aN)],[.val (aN)],fun z=>aGz z.1⟩
def anXS:FSpec:=⟨[.val (eT)],[.val (eT)],fun z=>aNm z.1⟩
def eqTS:FSpec:=⟨[.val (aJ),.val (aJ)],[.val (.bool)],fun z=>some (eqL z.1 z.2.1,())⟩
def iwithinS:FSpec:=⟨[.val ((.int .i64)),.val ((.int .i64))],[.val (.bool)],fun z=>some (bK z.1 z.2.1,())⟩
def itypS:FSpec:=⟨[.val (cH)],[.val (.bool)],fun z=>some (ityp z.1,())⟩
def ityp1S:FSpec:=⟨[.val (cH)],[.val (.bool)],fun z=>some (aCU z.1,())⟩
def itypesS:FSpec:=⟨[.val (aJ),.val ((.int .i64))],[.val (.bool)],fun z=>some (cP z.1 z.2.1,())⟩
def inum1S:FSpec:=⟨[.val ((.int .i64)),.cap ((.int .i64))],[.val (.bool)],fun z=>some (aAz z.1 z.2.1,())⟩
def inumsS:FSpec:=⟨[.val (aN),.val ((.int .i64)),.val ((.int .i64))],[.val (.bool)],fun z=>some (eM z.1 z.2.1 z.2.2.1,())⟩
def imethodS:FSpec:=⟨[.val (kD)],[.val (.bool)],fun z=>some (imethod z.1,())⟩
def iclassS:FSpec:=⟨[.val (aIj)],[.val (.bool)],fun z=>some (iclass z.1,())⟩
def ifits1S:FSpec:=⟨[.val (aIj)],[.val (.bool)],fun z=>some (xW z.1,())⟩
def ifits2S:FSpec:=⟨[.val (kD)],[.val (.bool)],fun z=>some (xV z.1,())⟩
def ifitsS:FSpec:=⟨[.val (bB)],[.val (.bool)],fun z=>some (bD z.1,())⟩
def getTypeS:FSpec:=⟨[.box 204 ((.pair gA (.pair .bool .unit)))],[.val (cH)],fun z=>oH z.1⟩
def getTypesS:FSpec:=⟨[.box 204 ((.pair gA (.pair .bool .unit))),.val ((.int .i64))],[.val (aJ)],fun z=>fH z.1 z.2.1⟩
def getNumsS:FSpec:=⟨[.box 204 ((.pair gA (.pair .bool .unit))),.val ((.int .i64)),.val ((.int .i64))],[.val (aN)],fun z=>iJ z.1 z.2.1 z.2.2.1⟩
def getMethodS:FSpec:=⟨[.box 204 ((.pair gA (.pair .bool .unit)))],[.val (kD)],fun z=>iX z.1⟩
def idecodeS:FSpec:=⟨[.val (gA)],[.val (bB),.val ((.int .i64))],fun z=>tV z.1⟩
def icopyS:FSpec:=⟨[.val (bB)],[.val (bB)],fun z=>aE1 z.1⟩
def kgoodS:FSpec:=⟨[.val (cH),.val ((.int .i64))],[.val (.bool)],fun z=>some (dV z.1 z.2.1,())⟩
def kisrefS:FSpec:=⟨[.val (cH)],[.val (.bool)],fun z=>some (gO z.1,())⟩
def kupS:FSpec:=⟨[.val (dQ),.val ((.int .i64))],[.val ((.int .i64))],fun z=>some (kup z.1 z.2.1,())⟩
def kbelowS:FSpec:=⟨[.val (dQ),.val ((.int .i64)),.val ((.int .i64))],[.val (.bool)],fun z=>some (bY z.1 z.2.1 z.2.2.1,())⟩
def ksubS:FSpec:=⟨[.val (dQ),.val (cH),.val (cH)],[.val (.bool)],fun z=>some (cO z.1 z.2.1 z.2.2.1,())⟩
def raboveS:FSpec:=⟨[.val (dQ),.val ((.int .i64))],[.val (aN)],fun z=>jA z.1 z.2.1⟩
def risrefS:FSpec:=⟨[.val (cH)],[.val (.bool)],fun z=>some (vD z.1,())⟩
def rgoodS:FSpec:=⟨[.val (cH),.val ((.int .i64))],[.val (.bool)],fun z=>some (aAB z.1 z.2.1,())⟩
def rsubS:FSpec:=⟨[.val (dQ),.val (cH),.val (cH)],[.val (.bool)],fun z=>uW z.1 z.2.1 z.2.2.1⟩
def rtypesS:FSpec:=⟨[.val (aJ),.val (aJ)],[.val (.bool)],fun z=>some (rW z.1 z.2.1,())⟩
def r5inS:FSpec:=⟨[.val ((.int .i64)),.val ((.int .i64)),.val ((.int .i64))],[.val (.bool)],fun z=>some (mW z.1 z.2.1 z.2.2.1,())⟩
def r5listS:FSpec:=⟨[.val (aN),.val ((.int .i64)),.val ((.int .i64))],[.val (.bool)],fun z=>some (pI z.1 z.2.1 z.2.2.1,())⟩
def r5typS:FSpec:=⟨[.val (cH)],[.val (.bool)],fun z=>some (wP z.1,())⟩
def r5typesS:FSpec:=⟨[.val (aJ),.val ((.int .i64))],[.val (.bool)],fun z=>some (jP z.1 z.2.1,())⟩
def r5fitsS:FSpec:=⟨[.val (bB)],[.val (.bool)],fun z=>some (rN z.1,())⟩
def r5fieldsS:FSpec:=⟨[.val (bB),.val ((.int .i64))],[.tip (aJ)],fun z=>eQ z.1 z.2.1⟩
def r5goodS:FSpec:=⟨[.val (bB),.val (aJ)],[.val (.bool)],fun z=>some (nH z.1 z.2.1,())⟩
def r5classS:FSpec:=⟨[.val (bB),.val ((.int .i64))],[.val (.bool)],fun z=>tU z.1 z.2.1⟩
def r5namedS:FSpec:=⟨[.val (bB),.val (kD),.val (jB)],[.val (.bool)],fun z=>tY z.1 z.2.1 z.2.2.1⟩
def r5methodS:FSpec:=⟨[.val (bB),.val (kD)],[.val (.bool)],fun z=>pT z.1 z.2.1⟩
def r5saneS:FSpec:=⟨[.val (bB)],[.val ((.int .i64))],fun z=>some (rZ z.1,())⟩
def sinS:FSpec:=⟨[.val ((.int .i64)),.val ((.int .i64))],[.val (.bool)],fun z=>some (sin z.1 z.2.1,())⟩
def sallS:FSpec:=⟨[.val (bB),.val (xI)],[.val (.bool)],fun z=>some (nS z.1 z.2.1,())⟩
def saboveS:FSpec:=⟨[.val (bB),.val ((.int .i64))],[.val ((.int .i64)),.val (aN)],fun z=>pL z.1 z.2.1⟩
def sfitsS:FSpec:=⟨[.val (bB),.val ((.int .i64)),.val ((.int .i64))],[.val (.bool)],fun z=>aCq z.1 z.2.1 z.2.2.1⟩
def salikeS:FSpec:=⟨[.val (kD),.val (kD)],[.val (.bool)],fun z=>some (aBd z.1 z.2.1,())⟩
def sclassS:FSpec:=⟨[.val (bB),.val ((.int .i64))],[.val (.bool)],fun z=>sE z.1 z.2.1⟩
def sfieldsS:FSpec:=⟨[.val ((.int .i64)),.cap (bB)],[.val ((.int .i64))],fun z=>pN z.1 z.2.1⟩
def sinstrS:FSpec:=⟨[.val (bB),.val (kD),.val (jB),.val ((.clo 170 (.pair bB .unit)))],[.val (.bool)],fun z=>xR z.1 z.2.1 z.2.2.1 z.2.2.2.1⟩
def smethodS:FSpec:=⟨[.val (bB),.val (kD)],[.val (.bool)],fun z=>tW z.1 z.2.1⟩
def sentry1S:FSpec:=⟨[.val (cH)],[.val (.bool)],fun z=>some (sentry1 z.1,())⟩
def sentry2S:FSpec:=⟨[.val (cH),.cap ((.clo 172 .unit))],[.val (.bool)],fun z=>some (tZ z.1 z.2.1,())⟩
def sentryS:FSpec:=⟨[.val (bB),.val ((.int .i64))],[.val (.bool)],fun z=>aEN z.1 z.2.1⟩
def scheckS:FSpec:=⟨[.val (bB)],[.val ((.int .i64))],fun z=>some (eK z.1,())⟩
def sortIS:FSpec:=⟨[.own 3 ((.int .i64))],[],fun z=>some (aFO z.1)⟩
def compactIS:FSpec:=⟨[.take 3 ((.int .i64))],[.own 3 ((.int .i64))],fun z=>some (bM z.1,())⟩
def cbelowS:FSpec:=⟨[.val (bB),.val ((.int .i64))],[.val (aN)],fun z=>yS z.1 z.2.1⟩
def cslotS:FSpec:=⟨[.val (bB),.val ((.int .i64)),.val ((.int .i64))],[.val ((.int .i64)),.val (.bool)],fun z=>some (dI z.1 z.2.1 z.2.2.1)⟩
def ctargetsS:FSpec:=⟨[.val (bB),.val (jB)],[.tip (aN)],fun z=>kF z.1 z.2.1⟩
def cofS:FSpec:=⟨[.val (bB),.val ((.int .i64))],[.val (aN)],fun z=>cof z.1 z.2.1⟩
def r5belowS:FSpec:=⟨[.val (bB),.val ((.int .i64))],[.tip (aN)],fun z=>tP z.1 z.2.1⟩
def r5slotS:FSpec:=⟨[.val (bB),.val ((.int .i64)),.val ((.int .i64))],[.val ((.int .i64)),.val (.bool)],fun z=>some (aBb z.1 z.2.1 z.2.2.1)⟩
def r8targetsS:FSpec:=⟨[.val (bB),.val (jB)],[.tip (aN)],fun z=>iV z.1 z.2.1⟩
def r8callsS:FSpec:=⟨[.val (bB),.val ((.int .i64)),.val ((.int .i64))],[.val (.bool)],fun z=>tX z.1 z.2.1 z.2.2.1⟩
def r8edgesS:FSpec:=⟨[.val (bB)],[.val (eH)],fun z=>qN z.1⟩
def r8waysS:FSpec:=⟨[.val (eH)],[.val (aFp)],fun z=>yQ z.1⟩
def fenterS:FSpec:=⟨[.box 155 ((.pair eH (.pair (.osl 3 (.int .i64)) (.pair (.osl 3 (.int .i64)) (.pair (.osl 4 .bool) (.pair (.osl 3 (.int .i64)) (.pair (.int .i64) (.pair (.osl 26 aN) .unit)))))))),.val ((.int .i64))],[],fun z=>tO z.1 z.2.1⟩
def fleaveS:FSpec:=⟨[.box 155 ((.pair eH (.pair (.osl 3 (.int .i64)) (.pair (.osl 3 (.int .i64)) (.pair (.osl 4 .bool) (.pair (.osl 3 (.int .i64)) (.pair (.int .i64) (.pair (.osl 26 aN) .unit)))))))),.val ((.int .i64))],[],fun z=>xS z.1 z.2.1⟩
def ffromS:FSpec:=⟨[.box 155 ((.pair eH (.pair (.osl 3 (.int .i64)) (.pair (.osl 3 (.int .i64)) (.pair (.osl 4 .bool) (.pair (.osl 3 (.int .i64)) (.pair (.int .i64) (.pair (.osl 26 aN) .unit)))))))),.val ((.int .i64))],[],fun z=>aCM z.1 z.2.1⟩
def clipIOS:FSpec:=⟨[.take 3 ((.int .i64))],[.own 3 ((.int .i64))],fun z=>some (idL z.1,())⟩
def clipIIOS:FSpec:=⟨[.take 26 (aN)],[.own 26 (aN)],fun z=>some (idL z.1,())⟩
def ringsS:FSpec:=⟨[.val (eH)],[.val (eH)],fun z=>nL z.1⟩
def r5localS:FSpec:=⟨[.val (kD),.val ((.int .i64))],[.val (cH)],fun z=>uR z.1 z.2.1⟩
def rjoinS:FSpec:=⟨[.val (dQ),.val (cH),.val (cH)],[.val (cH)],fun z=>aCJ z.1 z.2.1 z.2.2.1⟩
def r8givesS:FSpec:=⟨[.val (kD)],[.val (aJ)],fun z=>pY z.1⟩
def r8ruleS:FSpec:=⟨[.val (bB),.val ((.int .i64)),.val (jB)],[.val (aJ),.val (aJ)],fun z=>yK z.1 z.2.1 z.2.2.1⟩
def r8stepS:FSpec:=⟨[.val (bB),.val ((.int .i64)),.val ((.int .i64)),.val (aJ)],[.val (aJ),.val (aN),.val ((.int .i64))],fun z=>pJ z.1 z.2.1 z.2.2.1 z.2.2.2.1⟩
def r8shapesS:FSpec:=⟨[.val (bB),.val ((.int .i64))],[.val (aAO),.val (.bool)],fun z=>qA z.1 z.2.1⟩
def r8allS:FSpec:=⟨[.val (bB)],[.val (bO),.val ((.int .i64))],fun z=>rF z.1⟩
def r8frameS:FSpec:=⟨[.val (bB),.val (bO),.val ((.int .i64))],[.val ((.int .i64))],fun z=>tL z.1 z.2.1 z.2.2.1⟩
def tdeepS:FSpec:=⟨[.val (bO),.val ((.int .i64))],[.val ((.int .i64))],fun z=>aCw z.1 z.2.1⟩
def dframeS:FSpec:=⟨[.val (bB),.val (bO),.val ((.int .i64))],[.val ((.int .i64))],fun z=>aCD z.1 z.2.1 z.2.2.1⟩
def growTS:FSpec:=⟨[.nilp true,.val ((.int .i64))],[.own 39 (cH)],fun z=>aCv z.1 z.2.1⟩
def concatTS:FSpec:=⟨[.val (xI)],[.val (aJ)],fun z=>lE z.1⟩
def indexIS:FSpec:=⟨[.val (aN),.val ((.int .i64))],[.val ((.int .i64))],fun z=>some (aE5 z.1 z.2.1,())⟩
def containsIS:FSpec:=⟨[.val (aN),.val ((.int .i64))],[.val (.bool)],fun z=>some (jZ z.1 z.2.1,())⟩
def clipQS:FSpec:=⟨[.val (nT)],[.val (nT)],fun z=>some (idL z.1,())⟩
def clipSSS:FSpec:=⟨[.val (bO)],[.val (bO)],fun z=>some (idL z.1,())⟩
def cupS:FSpec:=⟨[.val (bB),.val ((.int .i64))],[.val ((.int .i64))],fun z=>cup z.1 z.2.1⟩
def cfieldsS:FSpec:=⟨[.val (bB),.val ((.int .i64))],[.val (aJ)],fun z=>mQ z.1 z.2.1⟩
def csizeS:FSpec:=⟨[.val (bB),.val ((.int .i64))],[.val ((.int .i64))],fun z=>aCz z.1 z.2.1⟩
def clocalS:FSpec:=⟨[.val (kD),.val ((.int .i64))],[.val (cH)],fun z=>vL z.1 z.2.1⟩
def kjoinS:FSpec:=⟨[.val (dQ),.val (cH),.val (cH)],[.val (cH)],fun z=>zJ z.1 z.2.1 z.2.2.1⟩
def numIsS:FSpec:=⟨[.val ((.int .i64))],[.val (.bool)],fun z=>some (pB z.1,())⟩
def fnumberS:FSpec:=⟨[],[.val (cH)],fun _=>some (eR,())⟩
def farrayS:FSpec:=⟨[],[.val (cH)],fun _=>some (tQ,())⟩
def fobjectS:FSpec:=⟨[.val ((.int .i64))],[.val (cH)],fun z=>some (iL z.1,())⟩
def fplain1S:FSpec:=⟨[.val (aJ)],[.val (aJ)],fun z=>some (dL z.1,())⟩
def fof1S:FSpec:=⟨[.val (cH)],[.val (aJ)],fun z=>some (fZ z.1,())⟩
def fcalledS:FSpec:=⟨[.val (kD),.val (aJ)],[.val ((.pair aJ (.pair aJ .unit)))],fun z=>pU z.1 z.2.1⟩
def fplainS:FSpec:=⟨[.val ((.int .i64))],[.val ((.pair aJ (.pair aJ .unit))),.val (.bool)],fun z=>some (dN z.1)⟩
def fofS:FSpec:=⟨[.val (bB),.val (jB),.val ((.int .i64))],[.val ((.pair aJ (.pair aJ .unit)))],fun z=>fof z.1 z.2.1 z.2.2.1⟩
def ffitsS:FSpec:=⟨[.val (bB),.val ((.int .i64)),.val (cH),.val (cH)],[.val (.bool)],fun z=>some (dT z.1 z.2.1 z.2.2.1 z.2.2.2.1,())⟩
def fnextsS:FSpec:=⟨[.val (jB),.val ((.int .i64))],[.val (aN)],fun z=>some (cS z.1 z.2.1,())⟩
def fstepS:FSpec:=⟨[.val (bB),.val ((.int .i64)),.val ((.int .i64)),.val (aJ)],[.val (aJ),.val (aN),.val ((.int .i64))],fun z=>sQ z.1 z.2.1 z.2.2.1 z.2.2.2.1⟩
def tmergeS:FSpec:=⟨[.val (bB),.val (pK),.val (aJ)],[.val (pK),.val (.bool),.val (.bool)],fun z=>xT z.1 z.2.1 z.2.2.1⟩
def toneS:FSpec:=⟨[.val (bB),.val ((.int .i64)),.val ((.int .i64)),.own 52 (pK),.own 4 (.bool)],[.val (.bool)],fun z=>sM z.1 z.2.1 z.2.2.1 z.2.2.2.1 z.2.2.2.2.1⟩
def tmethodS:FSpec:=⟨[.val (bB),.val ((.int .i64))],[.val (aAO),.val ((.int .i64)),.val ((.int .i64))],fun z=>iT z.1 z.2.1⟩
def tcheckS:FSpec:=⟨[.val (bB)],[.val (bO),.val ((.int .i64)),.val ((.int .i64)),.val ((.int .i64))],fun z=>kS z.1⟩
def cyc1S:FSpec:=⟨[.val ((.int .i64)),.cap (aN)],[.val (.bool)],fun z=>some (aDG z.1 z.2.1,())⟩
def indexCycS:FSpec:=⟨[.val (aN),.val ((.clo 112 (.pair aN .unit)))],[.val ((.int .i64))],fun z=>some (aAc z.1 z.2.1,())⟩
def containsCycS:FSpec:=⟨[.val (aN),.val ((.clo 112 (.pair aN .unit)))],[.val (.bool)],fun z=>some (nB z.1 z.2.1,())⟩
def cyclicS:FSpec:=⟨[.val (eH),.val (aN)],[.val (.bool)],fun z=>xU z.1 z.2.1⟩
def dboundS:FSpec:=⟨[.val (bB),.val (bO)],[.val (aN),.val ((.int .i64))],fun z=>oV z.1 z.2.1⟩
def mul64S:FSpec:=⟨[.val ((.int .u64)),.val ((.int .u64))],[.val ((.int .u64)),.val ((.int .u64))],fun z=>aCR z.1 z.2.1⟩
def lofS:FSpec:=⟨[.val ((.int .i64))],[.val ((.pair (.int .i64) (.pair .bool .unit)))],fun z=>some (lof z.1,())⟩
def lsizeS:FSpec:=⟨[.val ((.int .i64))],[.val ((.int .u64))],fun z=>some (dH z.1,())⟩
def lplusS:FSpec:=⟨[.val ((.pair (.int .i64) (.pair .bool .unit))),.val ((.pair (.int .i64) (.pair .bool .unit)))],[.val ((.pair (.int .i64) (.pair .bool .unit)))],fun z=>aFn z.1 z.2.1⟩
def ltimesS:FSpec:=⟨[.val ((.pair (.int .i64) (.pair .bool .unit))),.val ((.pair (.int .i64) (.pair .bool .unit)))],[.val ((.pair (.int .i64) (.pair .bool .unit)))],fun z=>aCf z.1 z.2.1⟩
def lholdsS:FSpec:=⟨[.val (aH7),.val (aN)],[.val (.bool),.val ((.int .i64))],fun z=>zA z.1 z.2.1⟩
def pshapeS:FSpec:=⟨[.val (bO),.val ((.int .i64)),.val ((.int .i64))],[.val (pK)],fun z=>yE z.1 z.2.1 z.2.2.1⟩
def pcostS:FSpec:=⟨[.val (bB),.val (jB)],[.val ((.int .i64))],fun z=>aCW z.1 z.2.1⟩
def prowS:FSpec:=⟨[.val ((.int .i64)),.val ((.int .i64)),.val ((.int .i64)),.val ((.int .i64))],[.val (aH7)],fun z=>aBQ z.1 z.2.1 z.2.2.1 z.2.2.2.1⟩
def prulesS:FSpec:=⟨[.val (bB),.val (bO),.val ((.int .i64))],[.val (nT)],fun z=>yJ z.1 z.2.1 z.2.2.1⟩
def pnegS:FSpec:=⟨[.val ((.int .i64))],[.val (.bool)],fun z=>some (aSI z.1,())⟩
def indexNegS:FSpec:=⟨[.val (aN),.val ((.clo 42 .unit))],[.val ((.int .i64))],fun z=>some (zP z.1 z.2.1,())⟩
def containsNegS:FSpec:=⟨[.val (aN),.val ((.clo 42 .unit))],[.val (.bool)],fun z=>some (mY z.1 z.2.1,())⟩
def pcheckS:FSpec:=⟨[.val (bB),.val (bO)],[.val ((.int .i64)),.val ((.int .i64))],fun z=>rT z.1 z.2.1⟩
def aneedsS:FSpec:=⟨[.val (bB),.val (bO)],[.val ((.int .i64)),.val ((.int .i64)),.val ((.int .i64))],fun z=>kR z.1 z.2.1⟩
def acheckS:FSpec:=⟨[.val (bB)],[.val (bO),.val ((.int .i64))],fun z=>iR z.1⟩
def abytesS:FSpec:=⟨[.val (gA)],[.val (bB),.val (bO),.val ((.int .i64))],fun z=>aGM z.1⟩
def r14costS:FSpec:=⟨[.val (bB),.val (jB)],[.val ((.int .i64))],fun z=>qK z.1 z.2.1⟩
def r8sameS:FSpec:=⟨[.val (bO),.val (bO)],[.val (.bool)],fun z=>yH z.1 z.2.1⟩
def awake16S:FSpec:=⟨[],[.val (.bool)],fun _=>awake16N⟩
def small16S:FSpec:=⟨[.val (bB)],[.val (.bool)],fun z=>some (yD z.1,())⟩
def r8boundS:FSpec:=⟨[.val (bB),.val (bO)],[.val (aN),.val (.bool)],fun z=>mM z.1 z.2.1⟩
def r14potsS:FSpec:=⟨[.val (bB),.val (bO)],[.val ((.int .i64))],fun z=>oK z.1 z.2.1⟩
def r14needsS:FSpec:=⟨[.val (bB),.val (bO)],[.val ((.int .i64)),.val ((.int .i64)),.val (.bool)],fun z=>jH z.1 z.2.1⟩
def r14admitS:FSpec:=⟨[.val (bB)],[.val (bO),.val ((.int .i64))],fun z=>lT z.1⟩
def pA:List Ty:=[bB]
noncomputable def admitChecksS:FSpec:=⟨[.val (bB)],[.val (.bool)],fun z=>@ite _ (aCo Tryz.prog pA z) (Classical.propDecidable _) (some (true,())) none⟩
theorem aPf:FOk Tryz.prog 106 sortIS:=sort_fok 3 ⟨_,Tryz.func106,by kernel_rfl,by kernel_rfl⟩ Tryz.slices_Sort_int Tryz.slices_Sort_int_none
theorem aQC:FOk Tryz.prog 108 compactIS:=compact_fok 3 ⟨_,Tryz.func108,by kernel_rfl,by kernel_rfl⟩ Tryz.slices_Compact_int Tryz.slices_Compact_int_empty
theorem aAS:FOk Tryz.prog 164 iwithinS:=fk (cx [] [] 12 []) A0 trivial Tryz.func164 fun z r _ h=>⟨0,.trans (by kernel_rfl) ((aNx z.1 z.2.1).trans h)⟩
theorem aSG:FOk Tryz.prog 197 itypS:=fk (cx [(164,iwithinS)] [] 21 [1]) A0 ⟨aAS,trivial⟩ Tryz.func197 fun z r _ h=>⟨0,.trans (by kernel_rfl) ((aTv z.1).trans h)⟩
theorem aUx:FOk Tryz.prog 196 ityp1S:=fk (cx [(197,itypS)] [] 6 [1]) A0 ⟨aSG,trivial⟩ Tryz.func196 fun z r _ h=>⟨0,.trans (by kernel_rfl) ((aQH z.1).trans h)⟩
theorem aKP:FOk Tryz.prog 203 indexTypesS:=fk (cx [(196,ityp1S)] [] 19 []) ⟨[(2,(5,[.val 8 ((.int .i64)) false]))],[],[],[]⟩ ⟨aUx,trivial⟩ Tryz.func203 fun z r hl h=>(aHX z.1 z.2.1 hl).elim fun k hk=>⟨k,.trans (by kernel_rfl) (hk.trans h)⟩
theorem aGA:FOk Tryz.prog 173 containsTypesS:=fk (cx [(198000203,indexTypesS)] [] 9 []) A0 ⟨aKP,trivial⟩ Tryz.func173 fun z r hl h=>⟨0,.trans (by kernel_rfl) ((aDR z.1 z.2.1 hl).trans h)⟩
theorem aGg:FOk Tryz.prog 156 itypesS:=fk (cx [(198000173,containsTypesS)] [] 14 []) A0 ⟨aGA,trivial⟩ Tryz.func156 fun z r _ h=>⟨0,.trans (by kernel_rfl) ((aPH z.1 z.2.1).trans h)⟩
theorem aUW:FOk Tryz.prog 201 inum1S:=fk (cx [(164,iwithinS)] [] 8 []) A0 ⟨aAS,trivial⟩ Tryz.func201 fun z r _ h=>⟨0,.trans (by kernel_rfl) ((aQJ z.1 z.2.1).trans h)⟩
theorem aNP:FOk Tryz.prog 85 indexNumsS:=fk (cx [(201,inum1S)] [] 19 []) ⟨[(2,(5,[.val 8 ((.int .i64)) false]))],[],[],[]⟩ ⟨aUW,trivial⟩ Tryz.func85 fun z r hl h=>(aJZ z.1 z.2.1 hl).elim fun k hk=>⟨k,.trans (by kernel_rfl) (hk.trans h)⟩
theorem aHN:FOk Tryz.prog 41 containsNumsS:=fk (cx [(203000085,indexNumsS)] [] 9 []) A0 ⟨aNP,trivial⟩ Tryz.func41 fun z r hl h=>⟨0,.trans (by kernel_rfl) ((aFC z.1 z.2.1 hl).trans h)⟩
theorem aJQ:FOk Tryz.prog 163 inumsS:=fk (cx [(203000041,containsNumsS)] [] 17 [5]) A0 ⟨aHN,trivial⟩ Tryz.func163 fun z r _ h=>⟨0,.trans (by kernel_rfl) ((aRR z.1 z.2.1 z.2.2.1).trans h)⟩
theorem aS9:FOk Tryz.prog 159 iclassS:=fk (cx [(156,itypesS),(163,inumsS)] [] 21 [1]) A0 ⟨aGg,aJQ,trivial⟩ Tryz.func159 fun z r _ h=>⟨0,.trans (by kernel_rfl) ((aPE z.1).trans h)⟩
theorem aTh:FOk Tryz.prog 158 ifits1S:=fk (cx [(159,iclassS)] [] 6 [1]) A0 ⟨aS9,trivial⟩ Tryz.func158 fun z r _ h=>⟨0,.trans (by kernel_rfl) ((aOx z.1).trans h)⟩
theorem aKF:FOk Tryz.prog 198 indexClassS:=fk (cx [(158,ifits1S)] [] 19 []) ⟨[(2,(5,[.val 8 ((.int .i64)) false]))],[],[],[]⟩ ⟨aTh,trivial⟩ Tryz.func198 fun z r hl h=>(aHU z.1 z.2.1 hl).elim fun k hk=>⟨k,.trans (by kernel_rfl) (hk.trans h)⟩
theorem aGG:FOk Tryz.prog 157 containsClassS:=fk (cx [(160000198,indexClassS)] [] 9 []) A0 ⟨aKF,trivial⟩ Tryz.func157 fun z r hl h=>⟨0,.trans (by kernel_rfl) ((aD9 z.1 z.2.1 hl).trans h)⟩
theorem aPD:FOk Tryz.prog 205 iargsS:=fk (cx [] [] 26 []) ⟨[],[(2,(11,[.val 4 (.bool) false]))],[],[]⟩ trivial Tryz.func205 fun z r _ h=>⟨0,.trans (by kernel_rfl) ((aRG z.1).trans h)⟩
theorem aTA:FOk Tryz.prog 212 withinS:=fk (cx [] [] 18 []) A0 trivial Tryz.func212 fun z r _ h=>⟨0,.trans (by kernel_rfl) ((aQq z.1 z.2.1 z.2.2.1).trans h)⟩
theorem aVk:FOk Tryz.prog 200 igoodS:=fk (cx [(205,iargsS),(212,withinS)] [] 21 [1]) A0 ⟨aPD,aTA,trivial⟩ Tryz.func200 fun z r _ h=>⟨0,.trans (by kernel_rfl) ((aSn z.1).trans h)⟩
theorem aRu:FOk Tryz.prog 162 imethodS:=fk (cx [(156,itypesS),(163,inumsS),(164,iwithinS),(197,itypS),(200,igoodS)] [] 51 [1,4]) ⟨[(4,(5,[.val 30 ((.int .i64)) false]))],[],[],[]⟩ ⟨aGg,aJQ,aAS,aSG,aVk,trivial⟩ Tryz.func162 fun z r _ h=>(aN8 z.1).elim fun k hk=>⟨k,.trans (by kernel_rfl) (hk.trans h)⟩
theorem aTy:FOk Tryz.prog 161 ifits2S:=fk (cx [(162,imethodS)] [] 6 [1]) A0 ⟨aRu,trivial⟩ Tryz.func161 fun z r _ h=>⟨0,.trans (by kernel_rfl) ((aPU z.1).trans h)⟩
theorem aIU:FOk Tryz.prog 199 indexMethodS:=fk (cx [(161,ifits2S)] [] 19 []) ⟨[(2,(5,[.val 8 ((.int .i64)) false]))],[],[],[]⟩ ⟨aTy,trivial⟩ Tryz.func199 fun z r hl h=>(aGu z.1 z.2.1 hl).elim fun k hk=>⟨k,.trans (by kernel_rfl) (hk.trans h)⟩
theorem aEW:FOk Tryz.prog 160 containsMethodS:=fk (cx [(163000199,indexMethodS)] [] 9 []) A0 ⟨aIU,trivial⟩ Tryz.func160 fun z r hl h=>⟨0,.trans (by kernel_rfl) ((aC2 z.1 z.2.1 hl).trans h)⟩
theorem aIn:FOk Tryz.prog 172 sentry1S:=fk (cx [] [] 6 [1]) A0 trivial Tryz.func172 fun z r _ h=>⟨0,.trans (by kernel_rfl) ((aNM z.1).trans h)⟩
theorem aRx:FOk Tryz.prog 174 sentry2S:=fk (cx [(172,sentry1S)] [] 8 [2]) A0 ⟨aIn,trivial⟩ Tryz.func174 fun z r _ h=>⟨0,.trans (by kernel_rfl) ((aMZ z.1 z.2.1).trans h)⟩
theorem aKO:FOk Tryz.prog 203 indexEntryS:=fk (cx [(174,sentry2S)] [] 19 []) ⟨[(2,(5,[.val 8 ((.int .i64)) false]))],[],[],[]⟩ ⟨aRx,trivial⟩ Tryz.func203 fun z r hl h=>(aHW z.1 z.2.1 hl).elim fun k hk=>⟨k,.trans (by kernel_rfl) (hk.trans h)⟩
theorem aGI:FOk Tryz.prog 173 containsEntryS:=fk (cx [(176000203,indexEntryS)] [] 9 []) A0 ⟨aKO,trivial⟩ Tryz.func173 fun z r hl h=>⟨0,.trans (by kernel_rfl) ((aDK z.1 z.2.1 hl).trans h)⟩
theorem aVD:FOk Tryz.prog 122 newS:=fk (cx [] [] 6 [5]) A0 trivial Tryz.func122 fun z r _ h=>⟨0,.trans (by kernel_rfl) h⟩
theorem aVt:FOk Tryz.prog 177 nextS:=fk (cx [] [] 47 [1000000]) ⟨[(3,(8,[.val 4 ((.int .u64)) false,.val 12 ((.int .i64)) false]))],[],[],[]⟩ trivial Tryz.func177 fun z r _ h=>(aS6 z.1 r h).elim fun k hk=>⟨k,.trans (by kernel_rfl) hk⟩
theorem aEe:FOk Tryz.prog 123 getS:=fk {cx [(177,nextS)] [] 37 [1000000] with ptrs:=[163] } A0 ⟨aVt,trivial⟩ Tryz.func123 fun z r _ h=>⟨0,.trans (by kernel_rfl) h⟩
theorem aUH:FOk Tryz.prog 126 glongS:=fk (cx [(123,getS)] [] 15 [1000000]) A0 ⟨aEe,trivial⟩ Tryz.func126 fun z r _ h=>⟨0,.trans (by kernel_rfl) h⟩
theorem aVM:FOk Tryz.prog 128 finS:=fk {cx [] [] 20 [1000000] with ptrs:=[163] } A0 trivial Tryz.func128 fun z r _ h=>⟨0,.trans (by kernel_rfl) h⟩
theorem aJO:FOk Tryz.prog 99 rinS:=fk (cx [] [] 18 []) ⟨[(2,(4,[.val 5 ((.int .i64)) false]))],[],[],[]⟩ trivial Tryz.func99 fun z r _ h=>(aUA z.1 z.2.1 r h).elim fun k hk=>⟨k,.trans (by kernel_rfl) hk⟩
theorem aUN:FOk Tryz.prog 76 rargsS:=fk (cx [(99,rinS)] [] 24 []) A0 ⟨aJO,trivial⟩ Tryz.func76 fun z r _ h=>⟨0,.trans (by kernel_rfl) ((aRO z.1).trans h)⟩
theorem aVp:FOk Tryz.prog 179 igetS:=fk (cx [(123,getS),(205,iargsS)] [] 22 [1000000,2,3]) A0 ⟨aEe,aPD,trivial⟩ Tryz.func179 fun z r _ h=>⟨0,.trans (by kernel_rfl) h⟩
theorem aTg:FOk Tryz.prog 70 rinstrS:=fk (cx [(76,rargsS)] [] 45 [1]) ⟨[],[(2,(2,[]))],[],[]⟩ ⟨aUN,trivial⟩ Tryz.func70 fun z r _ h=>⟨0,.trans (by kernel_rfl) ((aO2 z.1).trans h)⟩
theorem aUz:FOk Tryz.prog 104 clipCS:=fk (cx [] [] 9 []) A0 trivial Tryz.func104 fun z r _ h=>⟨0,.trans (by kernel_rfl) ((aSz z.1).trans h)⟩
theorem aVd:FOk Tryz.prog 105 clipMS:=fk (cx [] [] 9 []) A0 trivial Tryz.func105 fun z r _ h=>⟨0,.trans (by kernel_rfl) ((aQK z.1).trans h)⟩
theorem aIp:FOk Tryz.prog 145 clipTS:=fk (cx [] [] 9 []) A0 trivial Tryz.func145 fun z r _ h=>⟨0,.trans (by kernel_rfl) ((aSB z.1).trans h)⟩
theorem aFM:FOk Tryz.prog 107 clipIS:=fk (cx [] [] 9 []) A0 trivial Tryz.func107 fun z r _ h=>⟨0,.trans (by kernel_rfl) ((aQY z.1).trans h)⟩
theorem aOs:FOk Tryz.prog 150 clipXS:=fk (cx [] [] 9 []) A0 trivial Tryz.func150 fun z r _ h=>⟨0,.trans (by kernel_rfl) ((aSw z.1).trans h)⟩
theorem aUS:FOk Tryz.prog 147 clipJS:=fk (cx [] [] 9 []) A0 trivial Tryz.func147 fun z r _ h=>⟨0,.trans (by kernel_rfl) ((aR4 z.1).trans h)⟩
def cloneTS0:FSpec:=⟨[.full (aJ) false],[.val (aJ)],fun _=>some (([]:List Tp),())⟩
def cloneTS1:FSpec:=⟨[.full (aJ) true],[.val (aJ)],fun z=>qD z.1⟩
theorem aR6:FOk Tryz.prog 146 cloneTS0:=fk (cx [] [] 8 []) A0 trivial Tryz.func146 fun z r _ h=>⟨0,.trans (by kernel_rfl) h⟩
theorem aSv:FOk Tryz.prog 146 cloneTS1:=fk (cx [] [] 8 []) A0 trivial Tryz.func146 fun z r _ h=>⟨0,.trans (by kernel_rfl) h⟩
theorem aL2:FOk Tryz.prog 146 cloneTS:=FOk.split _ aSv aR6 (fun _ h=>h)
def cloneJS0:FSpec:=⟨[.full (gE) false],[.val (gE)],fun _=>some (([]:List Int),())⟩
def cloneJS1:FSpec:=⟨[.full (gE) true],[.val (gE)],fun z=>aCH z.1⟩
theorem aRr:FOk Tryz.prog 148 cloneJS0:=fk (cx [] [] 8 []) A0 trivial Tryz.func148 fun z r _ h=>⟨0,.trans (by kernel_rfl) h⟩
theorem aRV:FOk Tryz.prog 148 cloneJS1:=fk (cx [] [] 8 []) A0 trivial Tryz.func148 fun z r _ h=>⟨0,.trans (by kernel_rfl) h⟩
theorem aTb:FOk Tryz.prog 148 cloneJS:=FOk.split _ aRV aRr (fun _ h=>h)
def cloneIS0:FSpec:=⟨[.full (aN) false],[.val (aN)],fun _=>some (([]:List Int),())⟩
def cloneIS1:FSpec:=⟨[.full (aN) true],[.val (aN)],fun z=>aCx z.1⟩
theorem aRJ:FOk Tryz.prog 149 cloneIS0:=fk (cx [] [] 8 []) A0 trivial Tryz.func149 fun z r _ h=>⟨0,.trans (by kernel_rfl) h⟩
theorem aRZ:FOk Tryz.prog 149 cloneIS1:=fk (cx [] [] 8 []) A0 trivial Tryz.func149 fun z r _ h=>⟨0,.trans (by kernel_rfl) h⟩
theorem aUb:FOk Tryz.prog 149 cloneIS:=FOk.split _ aRZ aRJ (fun _ h=>h)
def cloneXS0:FSpec:=⟨[.full (eT) false],[.val (eT)],fun _=>some (([]:List Ins),())⟩
def cloneXS1:FSpec:=⟨[.full (eT) true],[.val (eT)],fun z=>aCQ z.1⟩
theorem aSj:FOk Tryz.prog 151 cloneXS0:=fk (cx [] [] 8 []) A0 trivial Tryz.func151 fun z r _ h=>⟨0,.trans (by kernel_rfl) h⟩
theorem aR9:FOk Tryz.prog 151 cloneXS1:=fk (cx [] [] 8 []) A0 trivial Tryz.func151 fun z r _ h=>⟨0,.trans (by kernel_rfl) h⟩
theorem aTz:FOk Tryz.prog 151 cloneXS:=FOk.split _ aR9 aSj (fun _ h=>h)
theorem aVL:FOk Tryz.prog 100 anTS:=fk (cx [(145,clipTS),(146,cloneTS)] [] 6 []) A0 ⟨aIp,aL2,trivial⟩ Tryz.func100 fun z r _ h=>⟨0,.trans (by kernel_rfl) h⟩
theorem aVG:FOk Tryz.prog 101 anJS:=fk (cx [(147,clipJS),(148,cloneJS)] [] 6 []) A0 ⟨aUS,aTb,trivial⟩ Tryz.func101 fun z r _ h=>⟨0,.trans (by kernel_rfl) h⟩
theorem aVK:FOk Tryz.prog 102 anIS:=fk (cx [(107,clipIS),(149,cloneIS)] [] 6 []) A0 ⟨aFM,aUb,trivial⟩ Tryz.func102 fun z r _ h=>⟨0,.trans (by kernel_rfl) h⟩
theorem aVC:FOk Tryz.prog 103 anXS:=fk (cx [(150,clipXS),(151,cloneXS)] [] 6 []) A0 ⟨aOs,aTz,trivial⟩ Tryz.func103 fun z r _ h=>⟨0,.trans (by kernel_rfl) h⟩
theorem aVg:FOk Tryz.prog 202 eqTS:=fk (cx [] [] 26 []) ⟨[(4,(5,[.val 13 ((.int .i64)) false]))],[],[(6,[[],[0],[],[],[0,1,2,3],[0,1,2,3,4],[0,1,2,3],[0,1,2,3],[]])],[]⟩ trivial Tryz.func202 fun z r hl h=>(aQi z.1 z.2.1 hl).elim fun k hk=>⟨k,.trans (by kernel_rfl) (hk.trans h)⟩
theorem aQy:FOk Tryz.prog 113 ifitsS:=fk (cx [(156,itypesS),(163,inumsS),(164,iwithinS),(160000157,containsClassS),(163000160,containsMethodS)] [] 46 [1]) A0 ⟨aGg,aJQ,aAS,aGG,aEW,trivial⟩ Tryz.func113 fun z r _ h=>⟨0,.trans (by kernel_rfl) ((aRF z.1).trans h)⟩
theorem aID:FOk Tryz.prog 178 getTypeS:=fk (cx [(123,getS)] [] 14 [1000000,2,3]) A0 ⟨aEe,trivial⟩ Tryz.func178 fun z r _ h=>⟨0,.trans (by kernel_rfl) (aN9 z.1 r h)⟩
theorem aHE:FOk Tryz.prog 124 getTypesS:=fk (cx [(123,getS),(145,clipTS),(178,getTypeS)] [11] 19 [1000000]) ⟨[(3,(3,[.val 5 (aJ) true,.val 9 ((.int .i64)) false,.box 1000000 204 [(gA,false),(.bool,false)]]))],[],[],[]⟩ ⟨aEe,aIp,aID,trivial⟩ Tryz.func124 fun z r _ h=>(aLu z.1 z.2.1 r h).elim fun k hk=>⟨k,.trans (by kernel_rfl) hk⟩
theorem aIQ:FOk Tryz.prog 125 getNumsS:=fk (cx [(107,clipIS),(123,getS)] [13] 22 [1000000]) ⟨[(3,(3,[.val 7 (aN) true,.val 11 ((.int .i64)) false,.box 1000000 204 [(gA,false),(.bool,false)]]))],[],[],[]⟩ ⟨aFM,aEe,trivial⟩ Tryz.func125 fun z r _ h=>(aNe z.1 z.2.1 z.2.2.1 r h).elim fun k hk=>⟨k,.trans (by kernel_rfl) hk⟩
theorem aMO:FOk Tryz.prog 127 getMethodS:=fk (cx [(123,getS),(124,getTypesS),(125,getNumsS),(150,clipXS),(178,getTypeS),(179,igetS)] [16] 37 [1000000,2,3]) ⟨[(3,(3,[.val 13 ((.int .i64)) false,.box 1000000 204 [(gA,false),(.bool,false)],.box 3 42 [(aJ,false),(aJ,false),((.int .i64),false),((.int .i64),false),(eT,true),((.int .i64),false),((.int .i64),false),(aN,true)]]))],[],[(4,[[],[],[0,1],[0,1],[0,1],[],[],[]])],[]⟩ ⟨aEe,aHE,aIQ,aOs,aID,aVp,trivial⟩ Tryz.func127 fun z r _ h=>(aJU z.1 r h).elim fun k hk=>⟨k,.trans (by kernel_rfl) hk⟩
theorem aU5:FOk Tryz.prog 55 icopyS:=fk (cx [(100,anTS),(101,anJS),(102,anIS),(103,anXS),(104,clipCS),(105,clipMS)] [30,68] 83 [1,2,3,5,7]) ⟨[(3,(4,[.val 25 ((.int .i64)) false,.box 3 28 [(dQ,true),(aJ,false),(gE,false),(iO,true),(aN,false),((.int .i64),false),((.int .i64),false)]])),(8,(5,[.val 47 ((.int .i64)) false,.box 3 28 [(dQ,true),(aJ,false),(gE,false),(iO,true),(aN,false),((.int .i64),false),((.int .i64),false)]]))],[],[(1,[[],[],[],[0,1,2],[0,1,2],[],[0,1,2,3,4,5],[0,1,2,3,4,5],[],[0,1,2,3,4,5,6,7,8],[0,1,2,3,4,5,6,7,8],[0,1,2,3,4,5,6,7,8,9,10],[0,1,2,3,4,5,6,7,8,9,10],[],[0,1,2,3,4,5,6,7,8,9,10,11,12,13],[]]),(5,[[],[],[0,1],[0,1],[0,1,2,3],[0,1,2,3],[0,1,2,3],[0,1,2,3,4,5,6],[0,1,2,3,4,5,6],[0,1,2,3],[0,1],[0,1],[],[],[]]),(10,[[],[],[],[0,1,2],[0,1,2],[],[0,1,2,3,4,5],[0,1,2,3,4,5],[],[0,1,2,3,4,5,6,7,8],[0,1,2,3,4,5,6,7,8],[],[5,8,11],[],[],[],[],[],[],[]]),(13,[[],[],[],[0,1,2],[0,1,2],[],[5],[],[],[]])],[]⟩ ⟨aVL,aVG,aVK,aVC,aUz,aVd,trivial⟩ Tryz.func55 fun z r _ h=>(aRk z.1 r h).elim fun k hk=>⟨k,.trans (by kernel_rfl) hk⟩
theorem aQU:FOk Tryz.prog 77 idecodeS:=fk (cx [(55,icopyS),(113,ifitsS),(122,newS),(123,getS),(124,getTypesS),(125,getNumsS),(126,glongS),(127,getMethodS),(128,finS)] [29,50,62] 89 [2,23,5]) ⟨[(6,(3,[.val 26 ((.int .i64)) false,.box 23 204 [(gA,false),(.bool,false)],.box 5 28 [(dQ,true),(aJ,true),(gE,true),(iO,true),(aN,true),((.int .i64),false),((.int .i64),false)]])),(11,(3,[.val 47 ((.int .i64)) false,.box 23 204 [(gA,false),(.bool,false)],.box 5 28 [(dQ,true),(aJ,false),(gE,true),(iO,true),(aN,true),((.int .i64),false),((.int .i64),false)]])),(15,(3,[.val 59 ((.int .i64)) false,.box 23 204 [(gA,false),(.bool,false)],.box 5 28 [(dQ,true),(aJ,false),(gE,true),(iO,true),(aN,true),((.int .i64),false),((.int .i64),false)]]))],[],[(7,[[],[],[0,1],[0,1],[0,1],[0,1,2,3,4],[0,1,4],[0,1,2,3,4,5,6],[0,1,4],[0,1],[0,1],[],[],[]]),(12,[[],[],[0,1],[0,1],[0,1],[],[],[]]),(16,[[],[],[0,1],[0,1],[0,1],[],[],[]])],[]⟩ ⟨aU5,aQy,aVD,aEe,aHE,aIQ,aUH,aMO,aVM,trivial⟩ Tryz.func77 fun z r _ h=>(aNG z.1 r h).elim fun k hk=>⟨k,.trans (by kernel_rfl) hk⟩
theorem aUX:FOk Tryz.prog 165 kgoodS:=fk (cx [] [] 24 [2]) ⟨[],[(2,(2,[.val 7 (.bool) false]))],[],[]⟩ trivial Tryz.func165 fun z r _ h=>⟨0,.trans (by kernel_rfl) ((aR7 z.1 z.2.1).trans h)⟩
theorem aMi:FOk Tryz.prog 143 kisrefS:=fk (cx [] [] 16 [1]) A0 trivial Tryz.func143 fun z r _ h=>⟨0,.trans (by kernel_rfl) ((aOO z.1).trans h)⟩
theorem aUq:FOk Tryz.prog 180 kupS:=fk (cx [] [] 27 []) A0 trivial Tryz.func180 fun z r _ h=>⟨0,.trans (by kernel_rfl) ((aU6 z.1 z.2.1).trans h)⟩
theorem aFV:FOk Tryz.prog 135 kbelowS:=fk (cx [(180,kupS)] [] 29 []) ⟨[(3,(4,[.val 1 ((.int .i64)) false]))],[],[],[]⟩ ⟨aUq,trivial⟩ Tryz.func135 fun z r _ h=>(aQk z.1 z.2.1 z.2.2.1).elim fun k hk=>⟨k,.trans (by kernel_rfl) (hk.trans h)⟩
theorem aN6:FOk Tryz.prog 144 ksubS:=fk (cx [(135,kbelowS),(143,kisrefS)] [] 41 [4,5]) A0 ⟨aFV,aMi,trivial⟩ Tryz.func144 fun z r _ h=>⟨0,.trans (by kernel_rfl) ((aTN z.1 z.2.1 z.2.2.1).trans h)⟩
theorem aCS:FOk Tryz.prog 89 raboveS:=fk (cx [] [16] 30 []) ⟨[(2,(6,[.val 1 ((.int .i64)) false,.val 5 (aN) true]))],[],[],[]⟩ trivial Tryz.func89 fun z r _ h=>(aQb z.1 z.2.1 r h).elim fun k hk=>⟨k,.trans (by kernel_rfl) hk⟩
theorem aLX:FOk Tryz.prog 52 risrefS:=fk (cx [] [] 16 [1]) A0 trivial Tryz.func52 fun z r _ h=>⟨0,.trans (by kernel_rfl) ((aPc z.1).trans h)⟩
theorem aP7:FOk Tryz.prog 130 rgoodS:=fk (cx [] [] 34 [2]) A0 trivial Tryz.func130 fun z r _ h=>⟨0,.trans (by kernel_rfl) ((aSl z.1 z.2.1).trans h)⟩
theorem aNY:FOk Tryz.prog 53 rsubS:=fk (cx [(52,risrefS),(89,raboveS),(99,rinS)] [] 40 [4,5]) ⟨[],[],[(4,[[],[],[],[],[],[4],[4],[],[4,5,6,7],[4,5,6,7],[],[],[]])],[]⟩ ⟨aLX,aCS,aJO,trivial⟩ Tryz.func53 fun z r _ h=>⟨0,.trans (by kernel_rfl) (aS8 z.1 z.2.1 z.2.2.1 r h)⟩
theorem aF2:FOk Tryz.prog 60 rtypesS:=fk (cx [] [] 26 []) ⟨[(4,(4,[.val 5 ((.int .i64)) false]))],[],[(6,[[],[0],[],[],[0,1,2,3],[0,1,2,3,4],[0,1,2,3],[0,1,2,3],[]])],[]⟩ trivial Tryz.func60 fun z r hl h=>(aOp z.1 z.2.1 hl).elim fun k hk=>⟨k,.trans (by kernel_rfl) (hk.trans h)⟩
theorem aNz:FOk Tryz.prog 68 r5inS:=fk (cx [] [] 15 []) A0 trivial Tryz.func68 fun z r _ h=>⟨0,.trans (by kernel_rfl) ((aTC z.1 z.2.1 z.2.2.1).trans h)⟩
theorem aSX:FOk Tryz.prog 67 r5listS:=fk (cx [(68,r5inS)] [] 25 []) ⟨[(4,(4,[.val 7 ((.int .i64)) false]))],[],[],[]⟩ ⟨aNz,trivial⟩ Tryz.func67 fun z r hl h=>(aO6 z.1 z.2.1 z.2.2.1 hl).elim fun k hk=>⟨k,.trans (by kernel_rfl) (hk.trans h)⟩
theorem aPQ:FOk Tryz.prog 69 r5typS:=fk (cx [(68,r5inS)] [] 21 [1]) A0 ⟨aNz,trivial⟩ Tryz.func69 fun z r _ h=>⟨0,.trans (by kernel_rfl) ((aQI z.1).trans h)⟩
theorem aSc:FOk Tryz.prog 66 r5typesS:=fk (cx [(69,r5typS)] [] 22 []) ⟨[(4,(4,[.val 5 ((.int .i64)) false]))],[],[],[]⟩ ⟨aPQ,trivial⟩ Tryz.func66 fun z r hl h=>(aNf z.1 z.2.1 hl).elim fun k hk=>⟨k,.trans (by kernel_rfl) (hk.trans h)⟩
theorem aL6:FOk Tryz.prog 34 r5fitsS:=fk (cx [(66,r5typesS),(67,r5listS),(68,r5inS),(69,r5typS),(70,rinstrS)] [] 142 [1,4,6]) ⟨[(4,(5,[.val 3 ((.int .i64)) false])),(10,(10,[.val 5 ((.int .i64)) false])),(16,(4,[.val 7 ((.int .i64)) false]))],[],[],[]⟩ ⟨aSc,aSX,aNz,aPQ,aTg,trivial⟩ Tryz.func34 fun z r hl h=>(aQw z.1 hl).elim fun k hk=>⟨k,.trans (by kernel_rfl) (hk.trans h)⟩
theorem wN:FOk Tryz.prog 45 r5fieldsS:=fk (cx [(89,raboveS)] [20,31] 32 [2]) ⟨[(4,(3,[.val 6 (aJ) true,.val 7 ((.int .i64)) false]))],[],[(6,[[],[0],[0],[0,1,2],[0,1,2,3],[0,1,2],[0,1,2],[0],[0],[0],[],[]])],[]⟩ ⟨aCS,trivial⟩ Tryz.func45 fun z r _ h=>(aLa z.1 z.2.1 r h).elim fun k hk=>⟨k,.trans (by kernel_rfl) hk⟩
theorem aGo:FOk Tryz.prog 79 r5goodS:=fk (cx [(130,rgoodS)] [] 21 [2]) ⟨[(2,(4,[.val 5 ((.int .i64)) false]))],[],[(4,[[],[0],[],[],[0,1,2,3],[0,1,2,3],[0,1,2,3],[],[]])],[]⟩ ⟨aP7,trivial⟩ Tryz.func79 fun z r hl h=>(aOr z.1 z.2.1 hl).elim fun k hk=>⟨k,.trans (by kernel_rfl) (hk.trans h)⟩
theorem aQ0:FOk Tryz.prog 80 r5classS:=fk (cx [(45,r5fieldsS),(53,rsubS),(60,rtypesS),(79,r5goodS)] [] 118 [2,5,8,9]) ⟨[(10,(11,[.val 7 ((.int .i64)) false]))],[(5,(2,[.val 6 (aN) false])),(12,(9,[]))],[(12,[[],[],[0,1],[],[],[0,1,2,3,4],[0,1,2,3,4],[0,1,2,3,4],[]]),(14,[[],[],[0,1],[0,1],[0,1,2,3],[0,1],[0,1],[],[],[0,1,2,3,4,5,6,7,8],[]]),(15,[[],[],[],[],[],[],[],[5,6],[5,6],[5,6,7,8],[5,6,7,8],[5,6,7,8],[5,6,7,8],[],[],[]]),(18,[[],[],[0,1],[0,1,2],[0,1],[0,1],[],[],[0,1,2,3,4,5,6,7],[]]),(19,[[],[],[],[0,1,2],[0,1,2],[0,1,2],[],[],[],[],[],[9,10],[9,10],[],[]])],[]⟩ ⟨wN,aNY,aF2,aGo,trivial⟩ Tryz.func80 fun z r _ h=>(aNn z.1 z.2.1 r h).elim fun k hk=>⟨k,.trans (by kernel_rfl) hk⟩
theorem aRQ:FOk Tryz.prog 131 r5namedS:=fk (cx [(45,r5fieldsS)] [] 105 [3,4,5]) ⟨[],[(4,(2,[.val 17 (.bool) false])),(7,(2,[.val 30 (.bool) false])),(10,(2,[.val 39 (.bool) false])),(13,(2,[.val 48 (.bool) false])),(16,(2,[.val 67 (.bool) false]))],[(15,[[],[],[0,1],[0,1],[0,1],[],[],[],[],[7,8],[7,8,9],[7,8,9],[7,8],[7,8],[],[],[]]),(22,[[],[],[0,1],[0,1],[0,1],[],[],[],[],[7,8],[7,8],[7,8,9,10],[7,8,9,10],[7,8],[7,8],[7,8],[7,8],[],[],[]])],[]⟩ ⟨wN,trivial⟩ Tryz.func131 fun z r _ h=>⟨0,.trans (by kernel_rfl) (aND z.1 z.2.1 z.2.2.1 r h)⟩
theorem aQA:FOk Tryz.prog 81 r5methodS:=fk (cx [(79,r5goodS),(130,rgoodS),(131,r5namedS)] [] 74 [2,3]) ⟨[(4,(4,[.val 5 ((.int .i64)) false]))],[(1,(2,[]))],[(6,[[],[0],[0,1],[0,1],[0,1,2,3],[0,1],[0,1],[],[]])],[]⟩ ⟨aGo,aP7,aRQ,trivial⟩ Tryz.func81 fun z r _ h=>(aKz z.1 z.2.1 r h).elim fun k hk=>⟨k,.trans (by kernel_rfl) hk⟩
theorem aSY:FOk Tryz.prog 39 r5saneS:=fk (cx [(34,r5fitsS),(79,r5goodS),(80,r5classS),(81,r5methodS)] [] 111 [1]) ⟨[(5,(3,[.val 3 (.bool) false,.val 4 ((.int .i64)) false])),(9,(3,[.val 3 (.bool) false,.val 5 ((.int .i64)) false])),(13,(10,[.val 3 (.bool) false,.val 6 ((.int .i64)) false])),(20,(3,[.val 3 (.bool) false,.val 8 ((.int .i64)) false]))],[(4,(4,[.val 3 (.bool) false])),(8,(4,[.val 3 (.bool) false])),(18,(1,[.val 3 (.bool) false]))],[(11,[[],[0],[0],[0,1,2],[0],[0],[],[]])],[]⟩ ⟨aL6,aGo,aQ0,aQA,trivial⟩ Tryz.func39 fun z r hl h=>(aQp z.1 hl).elim fun k hk=>⟨k,.trans (by kernel_rfl) (hk.trans h)⟩
theorem aSg:FOk Tryz.prog 167 sinS:=fk (cx [] [] 12 []) A0 trivial Tryz.func167 fun z r _ h=>⟨0,.trans (by kernel_rfl) ((aVl z.1 z.2.1).trans h)⟩
theorem aM4:FOk Tryz.prog 114 sallS:=fk (cx [(165,kgoodS)] [] 29 [2,8]) ⟨[(2,(9,[.val 11 ((.int .i64)) false])),(5,(5,[.val 17 ((.int .i64)) false]))],[],[],[]⟩ ⟨aUX,trivial⟩ Tryz.func114 fun z r hl h=>(aTX z.1 z.2.1 hl).elim fun k hk=>⟨k,.trans (by kernel_rfl) (hk.trans h)⟩
theorem aMC:FOk Tryz.prog 166 saboveS:=fk (cx [] [] 47 [2]) ⟨[(5,(3,[.val 4 ((.int .i64)) false,.val 7 ((.int .i64)) false]))],[(1,(3,[.val 5 (aN) false]))],[],[]⟩ trivial Tryz.func166 fun z r _ h=>(aQh z.1 z.2.1 r h).elim fun k hk=>⟨k,.trans (by kernel_rfl) hk⟩
theorem aU2:FOk Tryz.prog 168 sfitsS:=fk (cx [(144,ksubS)] [] 28 [3,7]) ⟨[],[],[(2,[[],[],[],[],[],[],[],[5,6],[5,6],[5,6,7,8],[5,6,7,8],[5,6,7,8],[5,6,7,8],[],[],[]])],[]⟩ ⟨aN6,trivial⟩ Tryz.func168 fun z r _ h=>⟨0,.trans (by kernel_rfl) (aRc z.1 z.2.1 z.2.2.1 r h)⟩
theorem aTa:FOk Tryz.prog 169 salikeS:=fk (cx [(202,eqTS)] [] 31 [2,3]) ⟨[],[],[(1,[[],[],[],[],[],[],[],[],[],[],[],[],[],[],[11,12,13],[11,12,13],[11,12,13],[],[],[],[],[],[20,21],[20,21],[],[],[]])],[]⟩ ⟨aVg,trivial⟩ Tryz.func169 fun z r _ h=>⟨0,.trans (by kernel_rfl) ((aPv z.1 z.2.1).trans h)⟩
theorem aTR:FOk Tryz.prog 115 sclassS:=fk (cx [(114,sallS),(166,saboveS),(167,sinS),(168,sfitsS),(169,salikeS)] [] 92 [2,5]) ⟨[(8,(5,[.val 50 ((.int .i64)) false]))],[],[(10,[[],[0],[0],[0],[],[],[],[],[7],[7,8],[],[],[],[],[],[14],[14],[],[],[],[],[19,20],[],[],[19,20,21,22,23],[19,20,21,22,23],[19,20,21,22,23,24,25],[19,20,21,22,23,24,25,26],[19,20,21,22,23,24,25],[19,20,21,22,23,24,25],[19,20,21,22,23],[19,20,21,22,23],[],[],[],[]])],[]⟩ ⟨aM4,aMC,aSg,aU2,aTa,trivial⟩ Tryz.func115 fun z r _ h=>(aQu z.1 z.2.1 r h).elim fun k hk=>⟨k,.trans (by kernel_rfl) hk⟩
theorem aRs:FOk Tryz.prog 170 sfieldsS:=fk (cx [(166,saboveS)] [] 21 []) A0 ⟨aMC,trivial⟩ Tryz.func170 fun z r _ h=>⟨0,.trans (by kernel_rfl) (aM7 z.1 z.2.1 r h)⟩
theorem aTD:FOk Tryz.prog 171 sinstrS:=fk (cx [(167,sinS),(170,sfieldsS)] [] 106 [4,5,6]) ⟨[],[(4,(2,[.val 19 (.bool) false])),(7,(2,[.val 32 (.bool) false])),(10,(2,[.val 41 (.bool) false])),(13,(2,[.val 50 (.bool) false])),(16,(2,[.val 68 (.bool) false]))],[(15,[[],[],[0,1],[0,1],[0,1],[],[],[],[],[7,8],[7,8,9],[7,8,9],[7,8],[],[],[]]),(22,[[],[],[0,1],[0,1],[0,1],[],[],[],[],[7,8],[7,8],[7,8,9,10],[7,8,9,10],[7,8],[7,8],[7,8],[7,8],[],[],[]])],[]⟩ ⟨aSg,aRs,trivial⟩ Tryz.func171 fun z r _ h=>⟨0,.trans (by kernel_rfl) (aQs z.1 z.2.1 z.2.2.1 z.2.2.2.1 r h)⟩
theorem aRl:FOk Tryz.prog 116 smethodS:=fk (cx [(114,sallS),(172000171,sinstrS)] [] 69 [2,3,7]) ⟨[(7,(5,[.val 58 ((.int .i64)) false]))],[(1,(2,[]))],[],[]⟩ ⟨aM4,aTD,trivial⟩ Tryz.func116 fun z r _ h=>(aMR z.1 z.2.1 r h).elim fun k hk=>⟨k,.trans (by kernel_rfl) hk⟩
theorem aTu:FOk Tryz.prog 117 sentryS:=fk (cx [(167,sinS),(172,sentry1S),(176000173,containsEntryS)] [] 35 [2,5,6]) A0 ⟨aSg,aIn,aGI,trivial⟩ Tryz.func117 fun z r _ h=>⟨0,.trans (by kernel_rfl) (aPe z.1 z.2.1 r h)⟩
theorem aTB:FOk Tryz.prog 62 scheckS:=fk (cx [(113,ifitsS),(114,sallS),(115,sclassS),(116,smethodS),(117,sentryS)] [] 52 [1,5]) ⟨[(6,(5,[.val 20 ((.int .i64)) false])),(12,(5,[.val 31 ((.int .i64)) false])),(18,(5,[.val 43 ((.int .i64)) false]))],[],[],[]⟩ ⟨aQy,aM4,aTR,aRl,aTu,trivial⟩ Tryz.func62 fun z r hl h=>(aO4 z.1 hl).elim fun k hk=>⟨k,.trans (by kernel_rfl) (hk.trans h)⟩
theorem aTH:FOk Tryz.prog 87 cbelowS:=fk (cx [(107,clipIS),(135,kbelowS)] [18] 25 [2]) ⟨[(3,(5,[.val 5 (aN) true,.val 10 ((.int .i64)) false]))],[],[],[]⟩ ⟨aFM,aFV,trivial⟩ Tryz.func87 fun z r _ h=>(aPd z.1 z.2.1 r h).elim fun k hk=>⟨k,.trans (by kernel_rfl) hk⟩
theorem aQj:FOk Tryz.prog 88 cslotS:=fk (cx [] [] 41 [3]) A0 trivial Tryz.func88 fun z r _ h=>⟨0,.trans (by kernel_rfl) ((aI6 z.1 z.2.1 z.2.2.1).trans h)⟩
theorem aHA:FOk Tryz.prog 44 ctargetsS:=fk (cx [(87,cbelowS),(88,cslotS)] [14,39,44] 45 [2,3]) ⟨[(7,(6,[.val 5 (aN) true,.val 26 ((.int .i64)) false]))],[],[],[]⟩ ⟨aTH,aQj,trivial⟩ Tryz.func44 fun z r _ h=>(aKG z.1 z.2.1 r h).elim fun k hk=>⟨k,.trans (by kernel_rfl) hk⟩
theorem aVP:FOk Tryz.prog 56 cofS:=fk {cx [(44,ctargetsS),(107,clipIS),(1000000000106,sortIS),(1000000000108,compactIS)] [28] 39 [2,5,7,32,37] with rows:=[5,32,37],thaws:=[37] } ⟨[(5,(4,[.own 5 3 ((.int .i64)),.val 24 ((.int .i64)) false]))],[],[],[]⟩ ⟨aHA,aFM,aPf,aQC,trivial⟩ Tryz.func56 fun z r _ h=>(aUR z.1 z.2.1 r h).elim fun k hk=>⟨k,.trans (by kernel_rfl) hk⟩
theorem aSo:FOk Tryz.prog 90 r5belowS:=fk (cx [(89,raboveS),(99,rinS)] [21,25] 26 [2]) ⟨[(3,(4,[.val 5 (aN) true,.val 6 ((.int .i64)) false]))],[],[],[]⟩ ⟨aCS,aJO,trivial⟩ Tryz.func90 fun z r _ h=>(aNk z.1 z.2.1 r h).elim fun k hk=>⟨k,.trans (by kernel_rfl) hk⟩
theorem aLM:FOk Tryz.prog 91 r5slotS:=fk (cx [] [] 41 [3]) A0 trivial Tryz.func91 fun z r _ h=>⟨0,.trans (by kernel_rfl) ((aOw z.1 z.2.1 z.2.2.1).trans h)⟩
theorem aFe:FOk Tryz.prog 46 r8targetsS:=fk (cx [(90,r5belowS),(91,r5slotS)] [14,44,48] 49 [2,3]) ⟨[(7,(5,[.val 5 (aN) true,.val 7 ((.int .i64)) false]))],[(2,(2,[.val 5 (aN) true]))],[(9,[[],[0],[0,1],[0],[0],[0,1,2,3,4],[0,1,2,3,4],[],[],[],[9],[10],[]])],[(9,[0,1,2,3,4,5,6,7,8,9,11,10,12])]⟩ ⟨aSo,aLM,trivial⟩ Tryz.func46 fun z r _ h=>(aIk z.1 z.2.1 r h).elim fun k hk=>⟨k,.trans (by kernel_rfl) hk⟩
theorem aQL:FOk Tryz.prog 61 r8callsS:=fk (cx [(46,r8targetsS),(99,rinS)] [] 32 [3]) ⟨[(2,(4,[.val 7 ((.int .i64)) false]))],[],[(4,[[],[0],[0],[0,1,2],[0],[0],[0],[0,1,2,3,4,5,6],[0],[0],[],[0,1,2,3,4,5,6,7,8,9,10],[]])],[]⟩ ⟨aFe,aJO,trivial⟩ Tryz.func61 fun z r _ h=>(aMP z.1 z.2.1 z.2.2.1 r h).elim fun k hk=>⟨k,.trans (by kernel_rfl) hk⟩
theorem aJi:FOk Tryz.prog 26 r8edgesS:=fk {cx [(61,r8callsS)] [27,31] 36 [1,7,3,34] with rows:=[3,7,34] } ⟨[(3,(9,[.own 3 26 (aN),.val 4 ((.int .i64)) false])),(7,(4,[.val 5 (aN) true,.val 6 ((.int .i64)) false]))],[],[],[]⟩ ⟨aQL,trivial⟩ Tryz.func26 fun z r _ h=>(aNg z.1 r h).elim fun k hk=>⟨k,.trans (by kernel_rfl) hk⟩
theorem aT6:FOk Tryz.prog 25 r8waysS:=fk {cx [] [] 111 [13,22] with rows:=[13,22],nests:=[13] } ⟨[(4,(8,[.val 5 ((.int .i64)) false,.row 13 66 ((.osl 4 .bool))])),(8,(4,[.val 6 ((.int .i64)) false,.row 13 66 ((.osl 4 .bool))])),(13,(9,[.val 7 ((.int .i64)) false,.row 13 66 ((.osl 4 .bool))])),(16,(6,[.val 8 ((.int .i64)) false,.row 13 66 ((.osl 4 .bool))])),(19,(3,[.val 9 ((.int .i64)) false,.row 13 66 ((.osl 4 .bool))]))],[],[(11,[[],[0],[],[],[0,1,2,3],[0,1,2,3,4],[0,1,2,3],[0,1,2,3],[0,1,2,3,4,5,6,7],[0,1,2,3],[0,1,2,3],[],[]]),(21,[[],[0],[],[],[0,1,2,3],[0,1,2,3,4],[0,1,2,3,4,5],[0,1,2,3,4],[0,1,2,3,4],[0,1,2,3,4,5,6,7,8],[0,1,2,3,4],[0,1,2,3,4],[0,1,2,3,4],[0,1,2,3,4],[0,1,2,3,4,13],[0,1,2,3,4],[0,1,2,3,4],[0,1,2,3,4,13,14,15,16],[0,1,2,3,4],[0,1,2,3,4],[0,1,2,3,4],[0,1,2,3,4],[0,1,2,3,4,21],[0,1,2,3,4],[0,1,2,3,4],[0,1,2,3,4,21,22,23,24],[0,1,2,3,4],[0,1,2,3,4],[0,1,2,3,4],[0,1,2,3,4],[],[]])],[]⟩ trivial Tryz.func25 fun z r _ h=>(aPX z.1 r h).elim fun k hk=>⟨k,.trans (by kernel_rfl) hk⟩
theorem aS2:FOk Tryz.prog 154 fenterS:=fk {cx [] [41] 47 [1002000001,1002000002,1002000003,1002000004,1002000006,1000000,44] with rows:=[44] } ⟨[],[],[(1,[[],[],[],[],[0,1,2,3],[0,1,2,3,4],[0,1,2,3,4],[0,1,2,3,4],[0,1,2,3,4],[0,1,2,3,4,5,6,7,8],[0,1,2,3,4,5,6,7,8,9],[0,1,2,3,4,5,6,7,8,9],[0,1,2,3,4,5,6,7,8,9],[0,1,2,3,4,5,6,7,8,9],[0,1,2,3,4,5,6,7,8,9,10,11,12,13],[0,1,2,3,4,5,6,7,8,9,10,11,12,13],[0,1,2,3,4,5,6,7,8,9,10,11,12,13],[0,1,2,3,4,5,6,7,8,9,10,11,12,13],[9],[9],[],[]])],[(1,[0,1,2,3,4,5,6,7,8,19,9,10,11,12,13,14,15,16,17,18,20,21])]⟩ trivial Tryz.func154 fun z r _ h=>⟨0,.trans (by kernel_rfl) h⟩
theorem aUh:FOk Tryz.prog 107 clipIOS:=fk {cx [] [] 9 [0,8] with rows:=[1,8] } A0 trivial Tryz.func107 fun z r _ h=>⟨0,.trans (by kernel_rfl) ((aOz z.1).trans h)⟩
theorem aUi:FOk Tryz.prog 155 fleaveS:=fk {cx [(1000000000106,sortIS),(1000000000107,clipIOS)] [50,63] 70 [1002000001,1002000002,1002000003,1002000004,1002000006,1000000,4,41,53,65,67] with rows:=[4,41,53,65,67],thaws:=[65] } ⟨[(2,(6,[.own 4 3 ((.int .i64)),.lnk 1002000003 4 (.bool),.lnk 1002000004 3 ((.int .i64))]))],[],[(0,[[],[],[],[],[0,1,2,3],[],[],[0,1,2,3,4,5,6],[0,1,2,3,4,5,6],[0,1,2,3,4,5,6],[0,1,2,3,4,5,6],[0,1,2,3,4,5,6,7,8,9,10],[0,1,2,3,4,5,6],[0,1,2,3,4,5,6],[]]),(9,[[],[0],[0],[0],[0],[0,1,2,3,4],[0,1,2,3,4],[0,1,2,3,4],[0],[],[],[]])],[]⟩ ⟨aPf,aUh,trivial⟩ Tryz.func155 fun z r _ h=>(aOl z.1 z.2.1 r h).elim fun k hk=>⟨k,.trans (by kernel_rfl) hk⟩
theorem aUy:FOk Tryz.prog 109 ffromS:=fk {cx [(154,fenterS),(155,fleaveS)] [83] 169 [1002000001,1002000002,1002000003,1002000004,1002000006,1000000,11,4,87,134] with rows:=[4,11,87,134] } ⟨[(2,(17,[.own 4 188 (cH),.lnk 1002000001 3 ((.int .i64)),.lnk 1002000002 3 ((.int .i64)),.lnk 1002000003 4 (.bool),.lnk 1002000004 3 ((.int .i64)),.lnk 1002000006 26 (aN),.box 1000000 155 [(eH,false),(.any,false),(.any,false),(.any,false),(.any,false),((.int .i64),false),(.any,false)]])),(4,(9,[.own 4 188 (cH),.ptr 5 4 0 2,.lnk 1002000002 3 ((.int .i64))]))],[(7,(1,[.val 62 (.bool) false]))],[(4,[[],[],[],[],[0,1,2,3],[0,1,2,3],[0,1,2,3],[0,1,2,3],[0,1,2,3,4,5,6,7],[0,1,2,3,4,5,6,7],[0,1,2,3,4,5,6,7],[0,1,2,3,4,5,6,7],[0,1,2,3],[0,1,2,3],[0,1,2,3],[]]),(5,[[],[],[],[],[0,1,2,3],[0,1,2,3],[0,1,2,3],[0,1,2,3],[],[],[0,1,2,3,4,5,6,7,8,9],[0,1,2,3,4,5,6,7,8,9],[0,1,2,3,4,5,6,7,8,9],[0,1,2,3,4,5,6,7,8,9],[],[],[]]),(12,[[],[],[],[],[0,1,2,3],[0,1,2,3],[0,1,2,3],[0,1,2,3],[0,1,2,3,4,5,6,7],[0,1,2,3,4,5,6,7],[0,1,2,3,4,5,6,7],[0,1,2,3,4,5,6,7],[0,1,2,3,4,5,6,7,8,9,10,11],[0,1,2,3,4,5,6,7,8,9,10,11],[0,1,2,3,4,5,6,7,8,9,10,11],[0,1,2,3,4,5,6,7,8,9,10,11],[0,1,2,3,4,5,6,7],[0,1,2,3,4,5,6,7],[0,1,2,3,4,5,6,7,8,9,10,11,12,13,14,15,16,17],[0,1,2,3,4,5,6,7,8,9,10,11,12,13,14,15,16,17],[0,1,2,3,4,5,6,7,8,9,10,11,12,13,14,15,16,17],[0,1,2,3,4,5,6,7,8,9,10,11,12,13,14,15,16,17],[0,1,2,3,4,5,6,7,8,9,10,11,12,13,14,15,16,17,18,19,20,21],[0,1,2,3,4,5,6,7,8,9,10,11,12,13,14,15,16,17],[0,1,2,3,4,5,6,7,8,9,10,11,12,13,14,15,16,17],[0,1,2,3,4,5,6,7],[],[]]),(18,[[],[],[],[],[0,1,2,3],[0,1,2,3,4],[0,1,2,3,4],[0,1,2,3,4],[0,1,2,3,4],[0,1,2,3,4,5,6,7,8],[0,1,2,3,4],[0,1,2,3,4],[0,1,2,3,4,5,6,7,8,9,10,11],[0,1,2,3,4,5,6,7,8,9,10,11],[0,1,2,3,4,5,6,7,8,9,10,11],[0,1,2,3,4,5,6,7,8,9,10,11],[0,1,2,3,4,5,6,7,8,9,10,11,12,13,14,15],[0,1,2,3,4,5,6,7,8,9,10,11],[0,1,2,3,4,5,6,7,8,9,10,11],[0,1,2,3,4],[],[]])],[]⟩ ⟨aS2,aUi,trivial⟩ Tryz.func109 fun z r _ h=>(aQG z.1 z.2.1 r h).elim fun k hk=>⟨k,.trans (by kernel_rfl) hk⟩
theorem aQQ:FOk Tryz.prog 110 clipIIOS:=fk {cx [] [] 9 [0,8] with rows:=[1,8] } A0 trivial Tryz.func110 fun z r _ h=>⟨0,.trans (by kernel_rfl) ((aNt z.1).trans h)⟩
theorem aVm:FOk Tryz.prog 57 ringsS:=fk {cx [(109,ffromS),(1000000000110,clipIIOS)] [] 39 [2,10,12,14,2016001,2016002,2016003,2016004,2016006,16,38] with rows:=[2,10,12,14,38],lnks:=[(155,[1,2,3,4,6])] } ⟨[(4,(5,[.val 19 ((.int .i64)) false,.lnk 2016001 3 ((.int .i64)),.lnk 2016002 3 ((.int .i64)),.lnk 2016003 4 (.bool),.lnk 2016004 3 ((.int .i64)),.lnk 2016006 26 (aN),.box 16 155 [(eH,false),(.any,false),(.any,false),(.any,false),(.any,false),((.int .i64),false),(.any,false)]]))],[],[(2,[[],[0],[0],[0,1,2],[0,1,2],[0,1,2,3,4],[0,1,2,3,4],[],[],[]])],[]⟩ ⟨aUy,aQQ,trivial⟩ Tryz.func57 fun z r _ h=>(aRy z.1 r h).elim fun k hk=>⟨k,.trans (by kernel_rfl) hk⟩
theorem aSy:FOk Tryz.prog 97 r5localS:=fk (cx [] [] 26 [2,4]) ⟨[],[],[(1,[[],[0],[0],[],[0,1,2,3],[0,1,2,3],[],[]])],[]⟩ trivial Tryz.func97 fun z r _ h=>⟨0,.trans (by kernel_rfl) h⟩
theorem aVa:FOk Tryz.prog 129 rjoinS:=fk (cx [(53,rsubS),(89,raboveS),(99,rinS)] [] 55 [4,5,6]) ⟨[(9,(4,[.val 9 ((.int .i64)) false]))],[],[(7,[[],[0],[0],[],[0,1,2,3],[0,1,2,3,4],[0,1,2,3,4],[],[],[]])],[]⟩ ⟨aNY,aCS,aJO,trivial⟩ Tryz.func129 fun z r _ h=>(aQ2 z.1 z.2.1 z.2.2.1 r h).elim fun k hk=>⟨k,.trans (by kernel_rfl) hk⟩
theorem aRw:FOk Tryz.prog 98 r8givesS:=fk (cx [] [] 10 [1]) A0 trivial Tryz.func98 fun z r _ h=>⟨0,.trans (by kernel_rfl) h⟩
theorem aTs:FOk Tryz.prog 51 r8ruleS:=fk (cx [(45,r5fieldsS),(91,r5slotS),(97,r5localS),(98,r8givesS)] [] 218 [3,5,8,9,10,11,12]) ⟨[],[],[(5,[[],[],[0,1],[]]),(7,[[],[],[0,1],[]]),(9,[[],[],[0,1],[],[],[0,1,2,3,4],[0,1,2,3,4],[],[],[8],[]]),(11,[[],[],[0,1],[],[],[0,1,2,3,4],[0,1,2,3,4],[],[],[],[]]),(17,[[],[],[0,1],[0,1],[2,3],[]]),(19,[[],[0],[],[0,1,2],[0,1,2],[3,4],[]]),(21,[[],[],[0,1],[]]),(23,[[],[],[0,1],[0,1],[2,3],[]]),(25,[[],[0],[],[0,1,2],[0,1,2],[3,4],[]]),(29,[[],[],[0,1],[0,1],[2,3],[]]),(31,[[],[],[0,1],[0,1,2],[0,1,2],[0,1],[0,1,2,3,4,5],[0,1,2,3,4,5],[0,1,2,3,4,5,6,7],[0,1,2,3,4,5,6,7],[0,1,2,3,4,5,6,7],[0,1],[6,7,8,9,10,11],[]]),(33,[[],[0],[0,1],[0,1],[0],[0,1,2,3,4],[0,1,2,3,4],[0],[0],[],[],[]]),(35,[[],[],[0,1],[0,1],[],[],[],[0,1,2,3,4,5,6],[]]),(39,[[],[],[0,1],[0,1],[2,3],[]]),(43,[[],[],[0,1],[0,1],[],[],[],[0,1,2,3,4,5,6],[0,1,2,3,4,5,6],[0,1,2,3,4,5,6,7,8],[0,1,2,3,4,5,6,7,8],[0,1,2,3,4,5,6],[0,1,2,3,4,5,6],[0,1,2,3,4,5,6],[],[]]),(46,[[],[],[0,1],[0,1],[0,1,2,3],[0,1],[0,1],[0,1],[0,1],[],[0,1,2,3,4,5,6,7,8,9],[0,1,2,3,4,5,6,7,8,9],[0,1,2,3,4,5,6,7,8,9,10,11],[0,1,2,3,4,5,6,7,8,9],[0,1,2,3,4,5,6,7,8,9],[],[],[]]),(48,[[],[0],[],[0,1,2],[0,1,2],[3,4],[]])],[(5,[1,2,0,3]),(7,[1,2,0,3]),(9,[0,1,2,3,4,5,6,7,9,8,10]),(17,[0,1,3,4,2,5]),(19,[0,1,2,4,5,3,6]),(21,[1,2,0,3]),(23,[0,1,3,4,2,5]),(25,[0,1,2,4,5,3,6]),(29,[0,1,3,4,2,5]),(35,[1,2,3,4,5,6,7,0,8]),(39,[0,1,3,4,2,5]),(48,[0,1,2,4,5,3,6])]⟩ ⟨wN,aLM,aSy,aRw,trivial⟩ Tryz.func51 fun z r _ h=>⟨0,.trans (by kernel_rfl) h⟩
theorem aL4:FOk Tryz.prog 21 r8stepS:=fk (cx [(51,r8ruleS),(52,risrefS),(53,rsubS)] [65] 196 [4,11,15,18,19]) ⟨[(21,(9,[.val 17 ((.int .i64)) false]))],[(5,(2,[.val 12 (aN) true])),(7,(2,[.val 12 (aN) true])),(9,(2,[.val 12 (aN) true])),(11,(2,[])),(14,(3,[.val 13 (aJ) false,.val 14 (aJ) false])),(14,(1,[.val 104 (.bool) false])),(17,(2,[]))],[(11,[[],[],[],[],[],[],[],[4,5,6],[4,5,6],[4,5,6,7,8],[4,5,6],[4,5,6],[4,5,6],[4,5,6],[],[]]),(16,[[],[],[0,1],[0,1,2],[0,1],[2,3,4],[]]),(23,[[],[0],[0,1],[0],[],[],[0,1,2,3,4,5],[0,1,2,3,4,5,6],[0,1,2,3,4,5],[0,1,2,3,4,5],[0,1,2,3,4,5,6,7,8,9],[0,1,2,3,4,5,6,7,8,9,10],[6,7,8,9],[]])],[(16,[0,1,3,4,5,2,6]),(23,[0,1,2,3,4,5,9,10,11,12,6,7,8,13])]⟩ ⟨aTs,aLX,aNY,trivial⟩ Tryz.func21 fun z r _ h=>(aO1 z.1 z.2.1 z.2.2.1 z.2.2.2.1 r h).elim fun k hk=>⟨k,.trans (by kernel_rfl) hk⟩
theorem aQz:FOk Tryz.prog 78 r8shapesS:=fk {cx [(21,r8stepS),(60,rtypesS),(129,rjoinS)] [119] 139 [2,27,18] with rows:=[27] } ⟨[(7,(32,[.val 8 ((.int .i64)) false,.row 27 52 (pK)])),(11,(26,[.val 9 (.bool) false,.val 10 ((.int .i64)) false,.row 27 52 (pK)])),(18,(19,[.val 9 (.bool) false,.val 14 ((.int .i64)) false,.row 27 52 (pK)])),(28,(6,[.val 16 (aJ) true,.val 17 ((.int .i64)) false]))],[],[(14,[[],[0],[0,1],[0,1,2],[0,1,2,3],[0,1,2],[0,1,2],[0,1,2],[],[],[],[10],[10,11],[11,12],[12],[]]),(30,[[],[],[0,1],[0,1,2],[0,1],[0,1],[0,1],[0,1,2,3,4,5,6],[0,1],[0,1],[0,1,2,3,4,5,6,7,8,9],[0,1,2,3,4,5,6,7,8,9,10],[0,1,2,3,4,5,6,7,8,9],[0,1,2,3,4,5,6,7,8,9],[],[0,1,2,3,4,5,6,7,8,9,10,11,12,13,14],[]])],[(14,[0,1,2,3,4,5,6,7,8,9,10,12,14,11,13,15])]⟩ ⟨aL4,aF2,aVa,trivial⟩ Tryz.func78 fun z r _ h=>(aKK z.1 z.2.1 r h).elim fun k hk=>⟨k,.trans (by kernel_rfl) hk⟩
theorem aUl:FOk Tryz.prog 38 r8allS:=fk (cx [(78,r8shapesS)] [25] 30 [1]) ⟨[(3,(6,[.val 4 (bO) true,.val 5 ((.int .i64)) false]))],[],[],[]⟩ ⟨aQz,trivial⟩ Tryz.func38 fun z r _ h=>(aRX z.1 r h).elim fun k hk=>⟨k,.trans (by kernel_rfl) hk⟩
theorem aSs:FOk Tryz.prog 121 r8frameS:=fk (cx [] [] 71 [3]) ⟨[(5,(4,[.val 7 ((.int .i64)) false,.val 8 ((.int .i64)) false]))],[(4,(5,[.val 7 ((.int .i64)) false]))],[(9,[[],[],[0,1],[],[],[],[],[],[0,1,2,3,4,5,6,7],[0,1,2,3,4,5,6,7],[0,1,2,3,4,5,6,7,8,9],[0,1,2,3,4,5,6,7],[0,1,2,3,4,5,6,7],[0,1,2,3,4,5,6,7],[0,1,2,3,4,5,6,7],[],[0,1,2,3,4,5,6,7,8,9,10,11,12,13,14,15],[],[]])],[]⟩ trivial Tryz.func121 fun z r _ h=>(aNa z.1 z.2.1 z.2.2.1 r h).elim fun k hk=>⟨k,.trans (by kernel_rfl) hk⟩
theorem aVf:FOk Tryz.prog 176 tdeepS:=fk (cx [] [] 32 [7]) ⟨[(5,(4,[.val 5 ((.int .i64)) false,.val 21 ((.int .i64)) false]))],[],[],[]⟩ trivial Tryz.func176 fun z r _ h=>(aSa z.1 z.2.1 r h).elim fun k hk=>⟨k,.trans (by kernel_rfl) hk⟩
theorem aTm:FOk Tryz.prog 120 dframeS:=fk (cx [(176,tdeepS)] [] 34 [3,7]) ⟨[],[],[(4,[[],[],[],[],[0,1,2,3],[0,1,2,3],[0,1,2,3],[],[0,1,2,3,4,5,6,7],[0,1,2,3,4,5,6,7,8],[0,1,2,3,4,5,6,7],[],[]])],[]⟩ ⟨aVf,trivial⟩ Tryz.func120 fun z r _ h=>⟨0,.trans (by kernel_rfl) h⟩
theorem aUI:FOk Tryz.prog 137 growTS:=fk {cx [] [] 27 [4,22,25,0,26] with rows:=[0,4,20,22,25,26],thaws:=[1000009,1000017,1000018] } A0 trivial Tryz.func137 fun z r _ h=>⟨0,.trans (by kernel_rfl) (aQN z.1 z.2.1 r h)⟩
theorem aEa:FOk Tryz.prog 94 concatTS:=fk {cx [(137,growTS)] [31] 36 [24,6,33] with rows:=[6,33] } ⟨[(3,(6,[.val 3 ((.int .i64)) false,.val 11 ((.int .i64)) false])),(11,(4,[.own 6 39 (cH),.val 27 ((.int .i64)) false]))],[],[],[]⟩ ⟨aUI,trivial⟩ Tryz.func94 fun z r _ h=>(aMT z.1 r h).elim fun k hk=>⟨k,.trans (by kernel_rfl) hk⟩
theorem aTc:FOk Tryz.prog 136 indexIS:=fk (cx [] [] 19 []) ⟨[(2,(5,[.val 8 ((.int .i64)) false]))],[],[],[]⟩ trivial Tryz.func136 fun z r hl h=>(aPn z.1 z.2.1 hl).elim fun k hk=>⟨k,.trans (by kernel_rfl) (hk.trans h)⟩
theorem aAC:FOk Tryz.prog 93 containsIS:=fk (cx [(136,indexIS)] [] 9 []) A0 ⟨aTc,trivial⟩ Tryz.func93 fun z r hl h=>⟨0,.trans (by kernel_rfl) ((aI5 z.1 z.2.1 hl).trans h)⟩
theorem aUP:FOk Tryz.prog 50 clipQS:=fk (cx [] [] 9 []) A0 trivial Tryz.func50 fun z r _ h=>⟨0,.trans (by kernel_rfl) ((aQX z.1).trans h)⟩
theorem aTU:FOk Tryz.prog 119 clipSSS:=fk (cx [] [] 9 []) A0 trivial Tryz.func119 fun z r _ h=>⟨0,.trans (by kernel_rfl) ((aPo z.1).trans h)⟩
theorem aVF:FOk Tryz.prog 134 cupS:=fk (cx [] [] 19 [2]) A0 trivial Tryz.func134 fun z r _ h=>⟨0,.trans (by kernel_rfl) (aUt z.1 z.2.1 r h)⟩
theorem aI8:FOk Tryz.prog 86 cfieldsS:=fk (cx [(94,concatTS),(134,cupS)] [] 26 [2]) ⟨[(4,(3,[.val 1 ((.int .i64)) false,.val 5 (aJ) false]))],[],[],[]⟩ ⟨aEa,aVF,trivial⟩ Tryz.func86 fun z r _ h=>(aNb z.1 z.2.1 r h).elim fun k hk=>⟨k,.trans (by kernel_rfl) hk⟩
theorem aU0:FOk Tryz.prog 43 csizeS:=fk (cx [(86,cfieldsS)] [] 10 [2]) A0 ⟨aI8,trivial⟩ Tryz.func43 fun z r _ h=>⟨0,.trans (by kernel_rfl) (aR8 z.1 z.2.1 r h)⟩
theorem aTk:FOk Tryz.prog 140 clocalS:=fk (cx [] [] 40 [2,4]) A0 trivial Tryz.func140 fun z r _ h=>⟨0,.trans (by kernel_rfl) (aPV z.1 z.2.1 r h)⟩
theorem aUL:FOk Tryz.prog 213 kjoinS:=fk (cx [(135,kbelowS),(144,ksubS),(180,kupS)] [] 47 [4,5,6]) ⟨[(8,(4,[.val 7 ((.int .i64)) false]))],[],[],[]⟩ ⟨aFV,aN6,aUq,trivial⟩ Tryz.func213 fun z r _ h=>(aQ8 z.1 z.2.1 z.2.2.1 r h).elim fun k hk=>⟨k,.trans (by kernel_rfl) hk⟩
theorem aUm:FOk Tryz.prog 184 numIsS:=fk (cx [] [] 9 []) A0 trivial Tryz.func184 fun z r _ h=>⟨0,.trans (by kernel_rfl) ((aRq z.1).trans h)⟩
theorem aQT:FOk Tryz.prog 182 fnumberS:=fk (cx [] [] 2 [0]) A0 trivial Tryz.func182 fun z r _ h=>⟨0,.trans (by kernel_rfl) h⟩
theorem aT3:FOk Tryz.prog 183 farrayS:=fk (cx [] [] 2 [0]) A0 trivial Tryz.func183 fun z r _ h=>⟨0,.trans (by kernel_rfl) h⟩
theorem aRY:FOk Tryz.prog 141 fobjectS:=fk (cx [] [] 5 [2]) A0 trivial Tryz.func141 fun z r _ h=>⟨0,.trans (by kernel_rfl) h⟩
theorem aSp:FOk Tryz.prog 181 fplain1S:=fk (cx [] [] 4 []) A0 trivial Tryz.func181 fun z r _ h=>⟨0,.trans (by kernel_rfl) h⟩
theorem aVx:FOk Tryz.prog 139 fof1S:=fk (cx [] [] 5 [1]) A0 trivial Tryz.func139 fun z r _ h=>⟨0,.trans (by kernel_rfl) h⟩
theorem aR5:FOk Tryz.prog 142 fcalledS:=fk (cx [(94,concatTS)] [] 24 [2,4,5]) A0 ⟨aEa,trivial⟩ Tryz.func142 fun z r _ h=>⟨0,.trans (by kernel_rfl) (aOb z.1 z.2.1 r h)⟩
theorem aTe:FOk Tryz.prog 138 fplainS:=fk (cx [(181,fplain1S),(182,fnumberS),(183,farrayS),(184,numIsS)] [] 118 [2,5]) A0 ⟨aSp,aQT,aT3,aUm,trivial⟩ Tryz.func138 fun z r _ h=>⟨0,.trans (by kernel_rfl) ((aPz z.1).trans h)⟩
theorem aVO:FOk Tryz.prog 95 fofS:=fk (cx [(86,cfieldsS),(88,cslotS),(138,fplainS),(139,fof1S),(140,clocalS),(141,fobjectS),(142,fcalledS)] [] 163 [3,4,6,7,8]) ⟨[],[],[(14,[[],[0],[0],[0],[],[0,1,2,3,4],[0,1,2,3,4,5],[0,1,2,3,4,5,6],[0,1,2,3,4,5,6],[5],[0,1,2,3,4,5,6,7,8,9],[0,1,2,3,4,5,6,7,8,9],[5],[5],[],[],[]]),(16,[[],[],[],[0,1,2],[0,1,2,3],[0,1,2,3],[],[0,1,2,3,4,5,6],[0,1,2,3,4,5,6],[],[],[],[],[]]),(25,[[],[],[0,1],[],[],[0,1,2,3,4],[0,1,2,3,4,5],[0,1,2,3,4,5],[0,1,2,3,4,5],[0,1,2,3,4],[],[]]),(27,[[],[0],[],[0,1,2],[0,1,2,3],[0,1,2,3],[3],[],[],[]])],[]⟩ ⟨aI8,aQj,aTe,aVx,aTk,aRY,aR5,trivial⟩ Tryz.func95 fun z r _ h=>⟨0,.trans (by kernel_rfl) (aUF z.1 z.2.1 z.2.2.1 r h)⟩
theorem aU8:FOk Tryz.prog 96 ffitsS:=fk (cx [(143,kisrefS),(144,ksubS)] [] 33 [4,6,7]) A0 ⟨aMi,aN6,trivial⟩ Tryz.func96 fun z r _ h=>⟨0,.trans (by kernel_rfl) ((aQ9 z.1 z.2.1 z.2.2.1 z.2.2.2.1).trans h)⟩
theorem aTt:FOk Tryz.prog 92 fnextsS:=fk (cx [] [] 24 [2]) A0 trivial Tryz.func92 fun z r _ h=>⟨0,.trans (by kernel_rfl) ((aP8 z.1 z.2.1).trans h)⟩
theorem aPL:FOk Tryz.prog 49 fstepS:=fk (cx [(92,fnextsS),(93,containsIS),(94,concatTS),(95,fofS),(96,ffitsS)] [] 130 [4,11,12,15]) ⟨[(16,(5,[.val 9 (aN) false,.val 104 ((.int .i64)) false]))],[],[(18,[[],[0],[0],[0,1,2],[0,1,2,3],[0,1,2,3,4],[0,1,2,3],[0,1,2],[0,1,2],[0,1,2,3,4,5,6,7,8],[],[]]),(21,[[],[0],[],[0,1,2],[0,1,2],[],[],[0,1,2,3,4,5,6],[7],[],[]])],[(21,[0,1,2,3,4,5,6,8,7,9,10])]⟩ ⟨aTt,aAC,aEa,aVO,aU8,trivial⟩ Tryz.func49 fun z r _ h=>(aSh z.1 z.2.1 z.2.2.1 z.2.2.2.1 r h).elim fun k hk=>⟨k,.trans (by kernel_rfl) hk⟩
theorem aTd:FOk Tryz.prog 204 tmergeS:=fk {cx [(145,clipTS),(146,cloneTS),(202,eqTS),(213,kjoinS)] [] 63 [3,4,6,28,9,11] with rows:=[9,28],thaws:=[1000056] } ⟨[(7,(6,[.val 31 ((.int .i64)) false,.row 9 39 (cH)]))],[],[(9,[[],[0],[0,1],[0,1],[0,1,2,3],[0,1,2,3],[0,1,2,3,4,5],[0,1,2,3],[0,1,2,3],[0,1,2,3,4,5,6,7,8],[0,1],[],[]])],[]⟩ ⟨aIp,aL2,aVg,aUL,trivial⟩ Tryz.func204 fun z r _ h=>(aPW z.1 z.2.1 z.2.2.1 r h).elim fun k hk=>⟨k,.trans (by kernel_rfl) hk⟩
theorem aVv:FOk Tryz.prog 175 toneS:=fk (cx [(49,fstepS),(204,tmergeS)] [] 62 [1000003,1000004,5,16]) ⟨[(5,(8,[.val 36 ((.int .i64)) false,.row 1000003 52 (pK),.row 1000004 4 (.bool)]))],[],[(1,[[],[0],[0,1],[0,1,2],[0,1,2,3],[0,1,2],[0,1,2],[0,1,2],[],[],[],[10],[10,11],[11,12],[12],[]]),(7,[[],[0],[0,1],[0],[0],[0,1,2,3,4],[],[],[],[8],[8,9],[0,1,2,3,4,5,6,7,8,9,10],[9,10],[10],[]])],[(1,[0,1,2,3,4,5,6,7,8,9,10,12,14,11,13,15]),(7,[0,1,2,3,4,5,6,7,8,11,13,9,10,12,14])]⟩ ⟨aPL,aTd,trivial⟩ Tryz.func175 fun z r _ h=>(aT7 z.1 z.2.1 z.2.2.1 z.2.2.2.1 z.2.2.2.2.1 r h).elim fun k hk=>⟨k,.trans (by kernel_rfl) hk⟩
theorem aR3:FOk Tryz.prog 118 tmethodS:=fk {cx [(1000000000175,toneS)] [] 52 [2,18,7,27,8] with rows:=[7,8,18,27] } ⟨[(7,(9,[.row 7 52 (pK),.row 8 4 (.bool)])),(8,(7,[.val 32 ((.int .i64)) false]))],[],[],[]⟩ ⟨aVv,trivial⟩ Tryz.func118 fun z r _ h=>(aNj z.1 z.2.1 r h).elim fun k hk=>⟨k,.trans (by kernel_rfl) hk⟩
theorem aUc:FOk Tryz.prog 63 tcheckS:=fk (cx [(118,tmethodS),(119,clipSSS)] [28] 35 [1]) ⟨[(2,(7,[.val 2 (bO) true,.val 13 ((.int .i64)) false]))],[],[],[]⟩ ⟨aR3,aTU,trivial⟩ Tryz.func63 fun z r _ h=>(aOU z.1 r h).elim fun k hk=>⟨k,.trans (by kernel_rfl) hk⟩
theorem aVy:FOk Tryz.prog 112 cyc1S:=fk (cx [(93,containsIS)] [] 7 []) A0 ⟨aAC,trivial⟩ Tryz.func112 fun z r hl h=>⟨0,.trans (by kernel_rfl) ((aTq z.1 z.2.1 hl).trans h)⟩
theorem aP6:FOk Tryz.prog 85 indexCycS:=fk (cx [(112,cyc1S)] [] 19 []) ⟨[(2,(5,[.val 8 ((.int .i64)) false]))],[],[],[]⟩ ⟨aVy,trivial⟩ Tryz.func85 fun z r hl h=>(aLr z.1 z.2.1 hl).elim fun k hk=>⟨k,.trans (by kernel_rfl) (hk.trans h)⟩
theorem aJq:FOk Tryz.prog 41 containsCycS:=fk (cx [(114000085,indexCycS)] [] 9 []) A0 ⟨aP6,trivial⟩ Tryz.func41 fun z r hl h=>⟨0,.trans (by kernel_rfl) ((aGx z.1 z.2.1 hl).trans h)⟩
theorem aUa:FOk Tryz.prog 59 cyclicS:=fk {cx [(114000041,containsCycS)] [] 28 [3] with thaws:=[1000003] } ⟨[(2,(6,[.val 9 ((.int .i64)) false]))],[],[],[]⟩ ⟨aJq,trivial⟩ Tryz.func59 fun z r _ h=>(aOF z.1 z.2.1 r h).elim fun k hk=>⟨k,.trans (by kernel_rfl) hk⟩
theorem aTV:FOk Tryz.prog 64 dboundS:=fk {cx [(56,cofS),(57,ringsS),(59,cyclicS),(93,containsIS),(120,dframeS)] [27] 113 [2,37,8] with rows:=[8,37] } ⟨[(3,(4,[.val 6 (eH) true,.val 24 ((.int .i64)) false])),(9,(26,[.val 41 ((.int .i64)) false,.row 8 3 ((.int .i64))])),(14,(15,[.val 12 ((.int .i64)) false,.val 13 ((.int .i64)) false,.val 50 ((.int .i64)) false])),(23,(5,[.val 13 ((.int .i64)) false,.val 76 ((.int .i64)) false])),(30,(4,[.val 100 ((.int .i64)) false,.row 8 3 ((.int .i64))]))],[(17,(2,[.val 16 ((.int .i64)) false]))],[],[]⟩ ⟨aVP,aVm,aUa,aAC,aTm,trivial⟩ Tryz.func64 fun z r _ h=>(aOv z.1 z.2.1 r h).elim fun k hk=>⟨k,.trans (by kernel_rfl) hk⟩
theorem aUE:FOk Tryz.prog 132 mul64S:=fk (cx [] [] 51 []) A0 trivial Tryz.func132 fun z r _ h=>⟨0,.trans (by kernel_rfl) (aSE z.1 z.2.1 r h)⟩
theorem aSu:FOk Tryz.prog 82 lofS:=fk (cx [] [] 11 [2]) A0 trivial Tryz.func82 fun z r _ h=>⟨0,.trans (by kernel_rfl) ((aUB z.1).trans h)⟩
theorem aUY:FOk Tryz.prog 133 lsizeS:=fk (cx [] [] 10 []) A0 trivial Tryz.func133 fun z r _ h=>⟨0,.trans (by kernel_rfl) ((aRf z.1).trans h)⟩
theorem aVj:FOk Tryz.prog 83 lplusS:=fk (cx [(82,lofS)] [] 20 [2,3,4]) A0 ⟨aSu,trivial⟩ Tryz.func83 fun z r _ h=>⟨0,.trans (by kernel_rfl) (aRA z.1 z.2.1 r h)⟩
theorem aTK:FOk Tryz.prog 84 ltimesS:=fk (cx [(82,lofS),(132,mul64S),(133,lsizeS)] [] 39 [2,3,4]) ⟨[],[],[(3,[[],[],[],[0,1,2],[0,1,2],[],[],[],[],[8],[9],[]])],[(3,[0,1,2,3,4,5,6,7,8,10,9,11])]⟩ ⟨aSu,aUE,aUY,trivial⟩ Tryz.func84 fun z r _ h=>⟨0,.trans (by kernel_rfl) (aPs z.1 z.2.1 r h)⟩
theorem aTr:FOk Tryz.prog 40 lholdsS:=fk (cx [(82,lofS),(83,lplusS),(84,ltimesS)] [] 43 [2,6]) ⟨[(5,(4,[.val 19 ((.int .i64)) false,.box 6 130 [((.int .i64),false),(.bool,false)]]))],[],[(7,[[],[0],[0],[0,1,2],[0,1,2,3],[0,1,2],[0,1,2],[0],[0],[],[]])],[]⟩ ⟨aSu,aVj,aTK,trivial⟩ Tryz.func40 fun z r _ h=>(aPh z.1 z.2.1 r h).elim fun k hk=>⟨k,.trans (by kernel_rfl) hk⟩
theorem aT9:FOk Tryz.prog 48 pshapeS:=fk (cx [] [] 28 [6]) A0 trivial Tryz.func48 fun z r _ h=>⟨0,.trans (by kernel_rfl) (aPg z.1 z.2.1 z.2.2.1 r h)⟩
theorem aVb:FOk Tryz.prog 17 pcostS:=fk (cx [(43,csizeS),(44,ctargetsS)] [] 50 [2,3]) ⟨[(8,(5,[.val 5 ((.int .i64)) false,.val 27 ((.int .i64)) false]))],[],[],[]⟩ ⟨aU0,aHA,trivial⟩ Tryz.func17 fun z r _ h=>(aRp z.1 z.2.1 r h).elim fun k hk=>⟨k,.trans (by kernel_rfl) hk⟩
theorem aVr:FOk Tryz.prog 47 prowS:=fk {cx [] [] 33 [2008000,8,11,2009000,9] with rows:=[11],thaws:=[32],lnks:=[(49,[0])] } A0 trivial Tryz.func47 fun z r _ h=>⟨0,.trans (by kernel_rfl) (aS0 z.1 z.2.1 z.2.2.1 z.2.2.2.1 r h)⟩
theorem aUd:FOk Tryz.prog 19 prulesS:=fk (cx [(17,pcostS),(47,prowS),(48,pshapeS),(49,fstepS),(50,clipQS)] [81,94] 110 [3,10,11]) ⟨[(6,(14,[.val 8 (nT) true,.val 54 ((.int .i64)) false])),(15,(4,[.val 8 (nT) true,.val 90 ((.int .i64)) false]))],[(12,(2,[.val 8 (nT) true]))],[],[]⟩ ⟨aVb,aVr,aT9,aPL,aUP,trivial⟩ Tryz.func19 fun z r _ h=>(aPq z.1 z.2.1 z.2.2.1 r h).elim fun k hk=>⟨k,.trans (by kernel_rfl) hk⟩
theorem aVu:FOk Tryz.prog 42 pnegS:=fk (cx [] [] 5 []) A0 trivial Tryz.func42 fun z r _ h=>⟨0,.trans (by kernel_rfl) h⟩
theorem aOQ:FOk Tryz.prog 85 indexNegS:=fk (cx [(42,pnegS)] [] 19 []) ⟨[(2,(5,[.val 8 ((.int .i64)) false]))],[],[],[]⟩ ⟨aVu,trivial⟩ Tryz.func85 fun z r hl h=>(aLm z.1 z.2.1 hl).elim fun k hk=>⟨k,.trans (by kernel_rfl) (hk.trans h)⟩
theorem aJR:FOk Tryz.prog 41 containsNegS:=fk (cx [(44000085,indexNegS)] [] 9 []) A0 ⟨aOQ,trivial⟩ Tryz.func41 fun z r hl h=>⟨0,.trans (by kernel_rfl) ((aGH z.1 z.2.1 hl).trans h)⟩
theorem aS4:FOk Tryz.prog 15 pcheckS:=fk (cx [(19,prulesS),(40,lholdsS),(44000041,containsNegS)] [] 49 [2,7,9]) ⟨[(2,(12,[.val 15 ((.int .i64)) false])),(5,(6,[.val 25 ((.int .i64)) false]))],[],[],[]⟩ ⟨aUd,aTr,aJR,trivial⟩ Tryz.func15 fun z r _ h=>(aO3 z.1 z.2.1 r h).elim fun k hk=>⟨k,.trans (by kernel_rfl) hk⟩
theorem aF9:FOk Tryz.prog 31 aneedsS:=fk (cx [(64,dboundS)] [] 56 [2]) ⟨[(6,(5,[.val 4 ((.int .i64)) false,.val 8 ((.int .i64)) false,.val 23 ((.int .i64)) false]))],[(8,(1,[.val 34 (.bool) false]))],[(9,[[],[0],[0,1],[0],[0],[],[0,1,2,3,4,5],[0,1,2,3,4,5,6],[0,1,2,3,4,5,6],[0,1,2,3,4,5,6,7,8],[0,1,2,3,4,5,6],[0,1,2,3,4,5,6],[0,1,2,3,4,5,6],[0,1,2,3,4,5],[6,7,8,9,10,11,12,13],[]]),(11,[[],[0],[0],[0],[0,1,2,3],[0],[1,2,3,4,5],[],[]])],[(11,[0,1,2,3,5,6,4,7,8])]⟩ ⟨aTV,trivial⟩ Tryz.func31 fun z r _ h=>(aQF z.1 z.2.1 r h).elim fun k hk=>⟨k,.trans (by kernel_rfl) hk⟩
theorem aF8:FOk Tryz.prog 29 acheckS:=fk (cx [(15,pcheckS),(31,aneedsS),(62,scheckS),(63,tcheckS)] [] 58 [1]) A0 ⟨aS4,aF9,aTB,aUc,trivial⟩ Tryz.func29 fun z r _ h=>⟨0,.trans (by kernel_rfl) h⟩
theorem aTS:FOk Tryz.prog 36 abytesS:=fk (cx [(29,acheckS),(77,idecodeS)] [] 28 [2,5]) A0 ⟨aF8,aQU,trivial⟩ Tryz.func36 fun z r _ h=>⟨0,.trans (by kernel_rfl) h⟩
theorem aJb:FOk Tryz.prog 18 r14costS:=fk (cx [(45,r5fieldsS),(46,r8targetsS)] [] 53 [2,3]) ⟨[(8,(4,[.val 5 ((.int .i64)) false,.val 7 ((.int .i64)) false]))],[],[(10,[[],[],[0,1],[0,1,2],[0,1],[0,1],[],[],[],[0,1,2,3,4,5,6,7,8],[]]),(11,[[],[],[0,1],[0,1,2],[0,1],[0,1],[],[],[],[]])],[]⟩ ⟨wN,aFe,trivial⟩ Tryz.func18 fun z r _ h=>(aMS z.1 z.2.1 r h).elim fun k hk=>⟨k,.trans (by kernel_rfl) hk⟩
theorem aSW:FOk Tryz.prog 33 r8sameS:=fk (cx [(60,rtypesS)] [] 75 []) ⟨[(4,(9,[.val 5 ((.int .i64)) false])),(9,(4,[.val 6 ((.int .i64)) false]))],[],[(6,[[],[0],[],[],[],[0,1,2,3,4],[0,1,2,3,4,5],[0,1,2,3,4],[0,1,2,3,4],[0,1,2,3,4],[]]),(11,[[],[0],[],[],[0,1,2,3],[],[],[],[0,1,2,3,4,5,6,7],[0,1,2,3,4,5,6,7,8],[0,1,2,3,4,5,6,7],[0,1,2,3,4,5,6,7],[0,1,2,3,4,5,6,7,8,9,10,11],[0,1,2,3,4,5,6,7],[0,1,2,3,4,5,6,7],[0,1,2,3,4,5,6,7],[],[],[],[18],[],[],[18,19,20,21],[],[],[],[18,19,20,21,22,23,24,25],[18,19,20,21,22,23,24,25,26],[18,19,20,21,22,23,24,25],[18,19,20,21,22,23,24,25],[18,19,20,21,22,23,24,25,26,27,28,29],[18,19,20,21,22,23,24,25],[18,19,20,21,22,23,24,25],[18,19,20,21,22,23,24,25],[],[],[]])],[]⟩ ⟨aF2,trivial⟩ Tryz.func33 fun z r _ h=>(aQd z.1 z.2.1 r h).elim fun k hk=>⟨k,.trans (by kernel_rfl) hk⟩
theorem aQS:FOk Tryz.prog 28 awake16S:=fk (cx [(18,r14costS),(26,r8edgesS),(29,acheckS),(31,aneedsS),(34,r5fitsS),(36,abytesS)] [] 92 [1,9]) ⟨[],[],[(7,[[],[],[],[],[],[],[],[],[],[],[],[],[],[],[],[],[],[],[],[],[],[],[],[],[],[],[],[],[],[],[],[],[],[],[],[],[],[],[],[38],[38],[38],[38],[38],[38],[38],[],[],[],[]])],[]⟩ ⟨aJb,aJi,aF8,aF9,aL6,aTS,trivial⟩ Tryz.func28 fun z r _ h=>⟨0,.trans (by kernel_rfl) h⟩
theorem aR1:FOk Tryz.prog 27 small16S:=fk (cx [] [] 53 [1,4]) ⟨[(4,(5,[.val 3 ((.int .i64)) false]))],[],[],[]⟩ trivial Tryz.func27 fun z r hl h=>(aMU z.1 hl).elim fun k hk=>⟨k,.trans (by kernel_rfl) (hk.trans h)⟩
theorem aRe:FOk Tryz.prog 65 r8boundS:=fk {cx [(25,r8waysS),(26,r8edgesS),(121,r8frameS)] [] 150 [2,48] with rows:=[48] } ⟨[(5,(4,[.val 9 ((.int .i64)) false])),(11,(21,[.val 11 ((.int .i64)) false,.row 48 3 ((.int .i64))])),(14,(18,[.val 12 ((.int .i64)) false,.row 48 3 ((.int .i64))])),(18,(13,[.val 13 ((.int .i64)) false,.val 14 ((.int .i64)) false,.val 15 ((.int .i64)) false])),(26,(5,[.val 14 ((.int .i64)) false,.val 17 ((.int .i64)) false]))],[(20,(11,[.val 13 ((.int .i64)) false,.val 14 ((.int .i64)) false])),(20,(1,[.val 85 (.bool) false])),(22,(2,[.val 16 ((.int .i64)) false]))],[],[]⟩ ⟨aT6,aJi,aSs,trivial⟩ Tryz.func65 fun z r _ h=>(aNd z.1 z.2.1 r h).elim fun k hk=>⟨k,.trans (by kernel_rfl) hk⟩
theorem aR0:FOk Tryz.prog 16 r14potsS:=fk (cx [(18,r14costS),(21,r8stepS)] [] 93 [2,6]) ⟨[(2,(15,[.val 5 ((.int .i64)) false])),(8,(9,[.val 7 ((.int .i64)) false])),(13,(4,[.val 11 ((.int .i64)) false]))],[],[(5,[[],[],[],[],[0,1,2,3],[0,1,2,3],[]]),(11,[[],[0],[0,1],[0,1,2],[0,1,2,3],[0,1,2],[0,1,2],[0,1,2,3,4,5,6],[0,1,2],[0,1,2],[0,1,2],[],[],[],[13],[13,14],[14,15],[15],[]]),(15,[[],[],[0,1],[],[],[0,1,2,3,4],[0,1,2,3,4,5],[0,1,2,3,4,5],[0,1,2,3,4,5,6,7],[0,1,2,3,4,5],[0,1,2,3,4,5],[0,1,2,3,4],[0,1,2,3,4,5,6,7,8,9,10,11],[0,1,2,3,4,5,6,7,8,9,10,11],[0,1,2,3,4,5,6,7,8,9,10,11,12,13],[0,1,2,3,4,5,6,7,8,9,10,11,12,13,14],[0,1,2,3,4,5,6,7,8,9,10,11,12,13],[0,1,2,3,4,5,6,7,8,9,10,11,12,13],[0,1,2,3,4,5,6,7,8,9,10,11],[0,1,2,3,4,5,6,7,8,9,10,11],[0,1,2,3,4],[]])],[(11,[0,1,2,3,4,5,6,7,8,9,10,11,12,13,15,17,14,16,18])]⟩ ⟨aJb,aL4,trivial⟩ Tryz.func16 fun z r _ h=>(aNi z.1 z.2.1 r h).elim fun k hk=>⟨k,.trans (by kernel_rfl) hk⟩
theorem aGW:FOk Tryz.prog 32 r14needsS:=fk (cx [(65,r8boundS)] [] 63 [2]) ⟨[(6,(7,[.val 9 ((.int .i64)) false,.val 10 ((.int .i64)) false,.val 11 ((.int .i64)) false]))],[(9,(2,[.val 9 ((.int .i64)) false]))],[(13,[[],[0],[0],[0],[0,1,2,3],[0],[1,2,3,4,5],[],[]])],[(13,[0,1,2,3,5,6,4,7,8])]⟩ ⟨aRe,trivial⟩ Tryz.func32 fun z r _ h=>(aKR z.1 z.2.1 r h).elim fun k hk=>⟨k,.trans (by kernel_rfl) hk⟩
theorem aQe:FOk Tryz.prog 30 r14admitS:=fk (cx [(16,r14potsS),(32,r14needsS),(38,r8allS),(39,r5saneS)] [] 46 [1]) A0 ⟨aR0,aGW,aUl,aSY,trivial⟩ Tryz.func30 fun z r _ h=>⟨0,.trans (by kernel_rfl) h⟩
theorem aIZ (hl:∀z,aCo Tryz.prog pA z→uG z.1=some (true,())):FOk Tryz.prog 8 admitChecksS:=fk (cx [(27,small16S),(28,awake16S),(29,acheckS),(30,r14admitS),(31,aneedsS),(32,r14needsS),(33,r8sameS)] [] 93 [1]) A0 ⟨aR1,aQS,aF8,aQe,aF9,aGW,aSW,trivial⟩ Tryz.func8 fun z r _ h=>by
 by_cases hw:aCo Tryz.prog pA z
 ·exact⟨0,.trans (by kernel_rfl) ((hl z hw).trans ((if_pos hw).symm.trans h))⟩
 ·have hn:admitChecksS.run z=none:=if_neg hw
  rw[hn] at h
  cases h
end
end Go.Pli
