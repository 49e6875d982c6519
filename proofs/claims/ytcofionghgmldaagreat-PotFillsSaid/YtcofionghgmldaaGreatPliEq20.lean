import Derived.Test.YtcofionghgmldaaGreatPliLaw
import Derived.Test.YtcofionghgmldaaGreatPMSort
import Derived.Test.YtcofionghgmldaaGreatPliReach
import Derived.Test.YtcofionghgmldaaGreatPliLib13
import Derived.Test.YtcofionghgmldaaGreatPMKit
import Derived.Test.YtcofionghgmldaaGreatPMSaid
import Derived.Test.YtcofionghgmldaaGreatProg
import Derived.KernelRfl
namespace Go.Pli
open Go Go.PM
open Go.Proofs
abbrev dT:Ty:= .pair (.int .i64) (.pair (.int .i64) .unit)
abbrev bW:Ty:= .sl 39 dT
abbrev jK:Ty:= .sl 21 (.int .i32)
abbrev bA:Ty:= .sl 3 (.int .i64)
abbrev mG:Ty:= .pair (.int .i64) dT
abbrev lD:Ty:= .sl 45 mG
abbrev lF:Ty:= .sl 26 bA
abbrev uS:Ty:= .pair .bool (.pair bW .unit)
abbrev aCG:Ty:= .sl 52 uS
abbrev nK:Ty:= .sl 53 aCG
abbrev aAA:Ty:= .pair bA (.pair (.int .i64) .unit)
abbrev sE:Ty:= .sl 49 aAA
abbrev aFf:Ty:= .pair (.int .i64) (.pair bW (.pair bA .unit))
abbrev lE:Ty:= .sl 106 aFf
abbrev hJ:Ty:= .pair bW (.pair bW (.pair dT (.pair lD (.pair (.int .i64) (.pair (.int .i64) (.pair bA .unit))))))
abbrev aFg:Ty:= .sl 42 hJ
abbrev cZ:Ty:= .pair lE (.pair bW (.pair jK (.pair aFg (.pair bA dT))))
abbrev aFh:Ty:= .sl 23 bW
abbrev aK9:Ty:= .pair lE (.pair bW (.pair jK (.pair (.osl 42 hJ) (.pair bA dT))))
abbrev aFi:Ty:= .sl 4 .bool
abbrev aLa:Ty:= .sl 188 dT
def A0:Ann:=⟨[],[],[],[]⟩
def TY:List (TypeId×Ty):=[(3,(.int .i64)),(4,.bool),(5,(.int .u8)),(21,(.int .i32)),(22,lE),(23,bW),(24,jK),(25,aFg),(26,bA),(28,cZ),(29,nK),(39,dT),(40,lD),(42,hJ),(45,mG),(46,sE),(49,aAA),(52,uS),(53,aCG),(64,lF),(66,aFi),(106,aFf),(130,(.pair (.int .i64) (.pair .bool .unit))),(141,(.pair bW (.pair bW .unit))),(155,(.pair lF (.pair bA (.pair bA (.pair aFi (.pair bA (.pair (.int .i64) (.pair lF .unit)))))))),(172,(.int .u64)),(178,aFh),(188,dT),(189,aLa)]
theorem aTq:aCO Tryz.prog TY=true:=by kernel_rfl
def cx (fns:List (FuncId×FSpec)) (tips:List Nat) (n:Nat) (bxs:List Nat):Ctx:={ty:=TY,fns:=fns,tips:=tips,n:=n,bxs:=bxs,ptrs:=[] }
theorem fk (G:Ctx) {f:FuncId} {fn:Func} (A:Ann) {S:FSpec} (h3:FnsOk Tryz.prog G.fns) (hf:Tryz.prog.funcs[f]? =some fn) (h:∀z r,aCy S.ps z→S.run z=some r→∃k,aBR G A k fn S.ps S.rs z=some r) (h1:G.ty=TY:=by rfl) (h2:G.ptrs.all (aDg Tryz.prog)=true:=by kernel_rfl) (hb:fn.body.isSome=true:=by kernel_rfl) (hn:(fn.name=="runtime.NumGoroutine")=false:=by kernel_rfl) (h4:G.sets.all (aCY Tryz.prog)=true:=by rfl):FOk Tryz.prog f S:=fok (aRY (by rw[h1];exact aTq) h2 h3 h4) hf hb hn h
noncomputable section
def rinS:FSpec:=⟨[.val (bA),.val ((.int .i64))],[.val (.bool)],fun z=>rin z.1 z.2.1⟩
def rargsS:FSpec:=⟨[.val ((.int .i64))],[.val ((.int .i64))],fun z=>some (qS z.1,())⟩
def rinstrS:FSpec:=⟨[.val (mG)],[.val (.bool)],fun z=>some (yK z.1,())⟩
def clipCS:FSpec:=⟨[.val (lE)],[.val (lE)],fun z=>some (idL z.1,())⟩
def clipTS:FSpec:=⟨[.val (bW)],[.val (bW)],fun z=>some (idL z.1,())⟩
def clipIS:FSpec:=⟨[.val (bA)],[.val (bA)],fun z=>some (idL z.1,())⟩
def clipXS:FSpec:=⟨[.val (lD)],[.val (lD)],fun z=>some (idL z.1,())⟩
def clipJS:FSpec:=⟨[.val (jK)],[.val (jK)],fun z=>some (idL z.1,())⟩
def cloneTS:FSpec:=⟨[.val (bW)],[.val (bW)],fun z=>aB6 z.1⟩
def cloneJS:FSpec:=⟨[.val (jK)],[.val (jK)],fun z=>aB7 z.1⟩
def cloneIS:FSpec:=⟨[.val (bA)],[.val (bA)],fun z=>aB8 z.1⟩
def cloneXS:FSpec:=⟨[.val (lD)],[.val (lD)],fun z=>aB5 z.1⟩
def anTS:FSpec:=⟨[.val (bW)],[.val (bW)],fun z=>uH z.1⟩
def anJS:FSpec:=⟨[.val (jK)],[.val (jK)],fun z=>aCp z.1⟩
def anIS:FSpec:=⟨[.val (bA)],[.val (bA)],fun z=>xH z.1⟩
def anXS:FSpec:=⟨[.val (lD)],[.val (lD)],fun z=>aCn z.1⟩
def kisrefS:FSpec:=⟨[.val (dT)],[.val (.bool)],fun z=>some (iS z.1,())⟩
def kupS:FSpec:=⟨[.val (lE),.val ((.int .i64))],[.val ((.int .i64))],fun z=>some (kup z.1 z.2.1,())⟩
def kbelowS:FSpec:=⟨[.val (lE),.val ((.int .i64)),.val ((.int .i64))],[.val (.bool)],fun z=>some (dH z.1 z.2.1 z.2.2.1,())⟩
def ksubS:FSpec:=⟨[.val (lE),.val (dT),.val (dT)],[.val (.bool)],fun z=>some (cR z.1 z.2.1 z.2.2.1,())⟩
def raboveS:FSpec:=⟨[.val (lE),.val ((.int .i64))],[.val (bA)],fun z=>jO z.1 z.2.1⟩
def risrefS:FSpec:=⟨[.val (dT)],[.val (.bool)],fun z=>some (sR z.1,())⟩
def rgoodS:FSpec:=⟨[.val (dT),.val ((.int .i64))],[.val (.bool)],fun z=>some (sT z.1 z.2.1,())⟩
def rsubS:FSpec:=⟨[.val (lE),.val (dT),.val (dT)],[.val (.bool)],fun z=>mL z.1 z.2.1 z.2.2.1⟩
def rtypesS:FSpec:=⟨[.val (bW),.val (bW)],[.val (.bool)],fun z=>some (kK z.1 z.2.1,())⟩
def rintsS:FSpec:=⟨[.val (bA),.val (bA)],[.val (.bool)],fun z=>some (qR z.1 z.2.1,())⟩
def r5inS:FSpec:=⟨[.val ((.int .i64)),.val ((.int .i64)),.val ((.int .i64))],[.val (.bool)],fun z=>some (iN z.1 z.2.1 z.2.2.1,())⟩
def r5listS:FSpec:=⟨[.val (bA),.val ((.int .i64)),.val ((.int .i64))],[.val (.bool)],fun z=>some (pD z.1 z.2.1 z.2.2.1,())⟩
def r5typS:FSpec:=⟨[.val (dT)],[.val (.bool)],fun z=>some (qT z.1,())⟩
def r5typesS:FSpec:=⟨[.val (bW),.val ((.int .i64))],[.val (.bool)],fun z=>some (mN z.1 z.2.1,())⟩
def r5fitsS:FSpec:=⟨[.val (cZ)],[.val (.bool)],fun z=>some (sW z.1,())⟩
def r5sameS:FSpec:=⟨[.val (cZ),.val (cZ)],[.val (.bool)],fun z=>some (pC z.1 z.2.1,())⟩
def r5fieldsS:FSpec:=⟨[.val (cZ),.val ((.int .i64))],[.tip (bW)],fun z=>jA z.1 z.2.1⟩
def r5goodS:FSpec:=⟨[.val (cZ),.val (bW)],[.val (.bool)],fun z=>some (nV z.1 z.2.1,())⟩
def r5classS:FSpec:=⟨[.val (cZ),.val ((.int .i64))],[.val (.bool)],fun z=>vL z.1 z.2.1⟩
def r5namedS:FSpec:=⟨[.val (cZ),.val (hJ),.val (mG)],[.val (.bool)],fun z=>vJ z.1 z.2.1 z.2.2.1⟩
def r5methodS:FSpec:=⟨[.val (cZ),.val (hJ)],[.val (.bool)],fun z=>vK z.1 z.2.1⟩
def r5saneS:FSpec:=⟨[.val (cZ)],[.val ((.int .i64))],fun z=>some (sV z.1,())⟩
def sortIS:FSpec:=⟨[.own 3 ((.int .i64))],[],fun z=>some (yC z.1)⟩
def compactIS:FSpec:=⟨[.take 3 ((.int .i64))],[.own 3 ((.int .i64))],fun z=>some (dN z.1,())⟩
def cbelowS:FSpec:=⟨[.val (cZ),.val ((.int .i64))],[.val (bA)],fun z=>xA z.1 z.2.1⟩
def cslotS:FSpec:=⟨[.val (cZ),.val ((.int .i64)),.val ((.int .i64))],[.val ((.int .i64)),.val (.bool)],fun z=>some (dQ z.1 z.2.1 z.2.2.1)⟩
def ctargetsS:FSpec:=⟨[.val (cZ),.val (mG)],[.tip (bA)],fun z=>pY z.1 z.2.1⟩
def r5belowS:FSpec:=⟨[.val (cZ),.val ((.int .i64))],[.tip (bA)],fun z=>vM z.1 z.2.1⟩
def r5slotS:FSpec:=⟨[.val (cZ),.val ((.int .i64)),.val ((.int .i64))],[.val ((.int .i64)),.val (.bool)],fun z=>some (yT z.1 z.2.1 z.2.2.1)⟩
def r8targetsS:FSpec:=⟨[.val (cZ),.val (mG)],[.tip (bA)],fun z=>vD z.1 z.2.1⟩
def fenterS:FSpec:=⟨[.box 155 ((.pair lF (.pair (.osl 3 (.int .i64)) (.pair (.osl 3 (.int .i64)) (.pair (.osl 4 .bool) (.pair (.osl 3 (.int .i64)) (.pair (.int .i64) (.pair (.osl 26 bA) .unit)))))))),.val ((.int .i64))],[],fun z=>wT z.1 z.2.1⟩
def fleaveS:FSpec:=⟨[.box 155 ((.pair lF (.pair (.osl 3 (.int .i64)) (.pair (.osl 3 (.int .i64)) (.pair (.osl 4 .bool) (.pair (.osl 3 (.int .i64)) (.pair (.int .i64) (.pair (.osl 26 bA) .unit)))))))),.val ((.int .i64))],[],fun z=>wQ z.1 z.2.1⟩
def ffromS:FSpec:=⟨[.box 155 ((.pair lF (.pair (.osl 3 (.int .i64)) (.pair (.osl 3 (.int .i64)) (.pair (.osl 4 .bool) (.pair (.osl 3 (.int .i64)) (.pair (.int .i64) (.pair (.osl 26 bA) .unit)))))))),.val ((.int .i64))],[],fun z=>wS z.1 z.2.1⟩
def clipIOS:FSpec:=⟨[.take 3 ((.int .i64))],[.own 3 ((.int .i64))],fun z=>some (idL z.1,())⟩
def clipIIOS:FSpec:=⟨[.take 26 (bA)],[.own 26 (bA)],fun z=>some (idL z.1,())⟩
def ringsS:FSpec:=⟨[.val (lF)],[.val (lF)],fun z=>kM z.1⟩
def r5localS:FSpec:=⟨[.val (hJ),.val ((.int .i64))],[.val (dT)],fun z=>yV z.1 z.2.1⟩
def rjoinS:FSpec:=⟨[.val (lE),.val (dT),.val (dT)],[.val (dT)],fun z=>vB z.1 z.2.1 z.2.2.1⟩
def r8givesS:FSpec:=⟨[.val (hJ)],[.val (bW)],fun z=>vG z.1⟩
def r8ruleS:FSpec:=⟨[.val (cZ),.val ((.int .i64)),.val (mG)],[.val (bW),.val (bW)],fun z=>yS z.1 z.2.1 z.2.2.1⟩
def r8stepS:FSpec:=⟨[.val (cZ),.val ((.int .i64)),.val ((.int .i64)),.val (bW)],[.val (bW),.val (bA),.val ((.int .i64))],fun z=>pB z.1 z.2.1 z.2.2.1 z.2.2.2.1⟩
def r8shapesS:FSpec:=⟨[.val (cZ),.val ((.int .i64))],[.val (aCG),.val (.bool)],fun z=>vF z.1 z.2.1⟩
def r8allS:FSpec:=⟨[.val (cZ)],[.val (nK),.val ((.int .i64))],fun z=>kN z.1⟩
def growTS:FSpec:=⟨[.nilp true,.val ((.int .i64))],[.own 39 (dT)],fun z=>wO z.1 z.2.1⟩
def concatTS:FSpec:=⟨[.val (aFh)],[.val (bW)],fun z=>oN z.1⟩
def indexIS:FSpec:=⟨[.val (bA),.val ((.int .i64))],[.val ((.int .i64))],fun z=>some (aBJ z.1 z.2.1,())⟩
def containsIS:FSpec:=⟨[.val (bA),.val ((.int .i64))],[.val (.bool)],fun z=>some (wY z.1 z.2.1,())⟩
def clipQS:FSpec:=⟨[.val (sE)],[.val (sE)],fun z=>some (idL z.1,())⟩
def cupS:FSpec:=⟨[.val (cZ),.val ((.int .i64))],[.val ((.int .i64))],fun z=>cup z.1 z.2.1⟩
def cfieldsS:FSpec:=⟨[.val (cZ),.val ((.int .i64))],[.val (bW)],fun z=>pZ z.1 z.2.1⟩
def csizeS:FSpec:=⟨[.val (cZ),.val ((.int .i64))],[.val ((.int .i64))],fun z=>wX z.1 z.2.1⟩
def clocalS:FSpec:=⟨[.val (hJ),.val ((.int .i64))],[.val (dT)],fun z=>uE z.1 z.2.1⟩
def numIsS:FSpec:=⟨[.val ((.int .i64))],[.val (.bool)],fun z=>some (mR z.1,())⟩
def fnumberS:FSpec:=⟨[],[.val (dT)],fun _=>some (jD,())⟩
def farrayS:FSpec:=⟨[],[.val (dT)],fun _=>some (wU,())⟩
def fobjectS:FSpec:=⟨[.val ((.int .i64))],[.val (dT)],fun z=>some (nB z.1,())⟩
def fplain1S:FSpec:=⟨[.val (bW)],[.val (bW)],fun z=>some (gX z.1,())⟩
def fof1S:FSpec:=⟨[.val (dT)],[.val (bW)],fun z=>some (gC z.1,())⟩
def fcalledS:FSpec:=⟨[.val (hJ),.val (bW)],[.val ((.pair bW (.pair bW .unit)))],fun z=>tY z.1 z.2.1⟩
def fplainS:FSpec:=⟨[.val ((.int .i64))],[.val ((.pair bW (.pair bW .unit))),.val (.bool)],fun z=>some (eP z.1)⟩
def fofS:FSpec:=⟨[.val (cZ),.val (mG),.val ((.int .i64))],[.val ((.pair bW (.pair bW .unit)))],fun z=>fof z.1 z.2.1 z.2.2.1⟩
def ffitsS:FSpec:=⟨[.val (cZ),.val ((.int .i64)),.val (dT),.val (dT)],[.val (.bool)],fun z=>some (eC z.1 z.2.1 z.2.2.1 z.2.2.2.1,())⟩
def fnextsS:FSpec:=⟨[.val (mG),.val ((.int .i64))],[.val (bA)],fun z=>some (eB z.1 z.2.1,())⟩
def fstepS:FSpec:=⟨[.val (cZ),.val ((.int .i64)),.val ((.int .i64)),.val (bW)],[.val (bW),.val (bA),.val ((.int .i64))],fun z=>pT z.1 z.2.1 z.2.2.1 z.2.2.2.1⟩
def cyc1S:FSpec:=⟨[.val ((.int .i64)),.cap (bA)],[.val (.bool)],fun z=>some (uD z.1 z.2.1,())⟩
def indexCycS:FSpec:=⟨[.val (bA),.val ((.clo 112 (.pair bA .unit)))],[.val ((.int .i64))],fun z=>some (aBL z.1 z.2.1,())⟩
def containsCycS:FSpec:=⟨[.val (bA),.val ((.clo 112 (.pair bA .unit)))],[.val (.bool)],fun z=>some (aAd z.1 z.2.1,())⟩
def cyclicS:FSpec:=⟨[.val (lF),.val (bA)],[.val (.bool)],fun z=>uC z.1 z.2.1⟩
def mul64S:FSpec:=⟨[.val ((.int .u64)),.val ((.int .u64))],[.val ((.int .u64)),.val ((.int .u64))],fun z=>vV z.1 z.2.1⟩
def lofS:FSpec:=⟨[.val ((.int .i64))],[.val ((.pair (.int .i64) (.pair .bool .unit)))],fun z=>some (lof z.1,())⟩
def lsizeS:FSpec:=⟨[.val ((.int .i64))],[.val ((.int .u64))],fun z=>some (fX z.1,())⟩
def lplusS:FSpec:=⟨[.val ((.pair (.int .i64) (.pair .bool .unit))),.val ((.pair (.int .i64) (.pair .bool .unit)))],[.val ((.pair (.int .i64) (.pair .bool .unit)))],fun z=>zL z.1 z.2.1⟩
def ltimesS:FSpec:=⟨[.val ((.pair (.int .i64) (.pair .bool .unit))),.val ((.pair (.int .i64) (.pair .bool .unit)))],[.val ((.pair (.int .i64) (.pair .bool .unit)))],fun z=>zK z.1 z.2.1⟩
def lholdsS:FSpec:=⟨[.val (aAA),.val (bA)],[.val (.bool),.val ((.int .i64))],fun z=>wG z.1 z.2.1⟩
def pshapeS:FSpec:=⟨[.val (nK),.val ((.int .i64)),.val ((.int .i64))],[.val (uS)],fun z=>pE z.1 z.2.1 z.2.2.1⟩
def pcostS:FSpec:=⟨[.val (cZ),.val (mG)],[.val ((.int .i64))],fun z=>mP z.1 z.2.1⟩
def prowS:FSpec:=⟨[.val ((.int .i64)),.val ((.int .i64)),.val ((.int .i64)),.val ((.int .i64))],[.val (aAA)],fun z=>qV z.1 z.2.1 z.2.2.1 z.2.2.2.1⟩
def prulesS:FSpec:=⟨[.val (cZ),.val (nK),.val ((.int .i64))],[.val (sE)],fun z=>sZ z.1 z.2.1 z.2.2.1⟩
def pnegS:FSpec:=⟨[.val ((.int .i64))],[.val (.bool)],fun z=>some (aHd z.1,())⟩
def indexNegS:FSpec:=⟨[.val (bA),.val ((.clo 42 .unit))],[.val ((.int .i64))],fun z=>some (aBI z.1 z.2.1,())⟩
def containsNegS:FSpec:=⟨[.val (bA),.val ((.clo 42 .unit))],[.val (.bool)],fun z=>some (aAc z.1 z.2.1,())⟩
def pcheckS:FSpec:=⟨[.val (cZ),.val (nK)],[.val ((.int .i64)),.val ((.int .i64))],fun z=>pG z.1 z.2.1⟩
def r14costS:FSpec:=⟨[.val (cZ),.val (mG)],[.val ((.int .i64))],fun z=>sX z.1 z.2.1⟩
def r14potsS:FSpec:=⟨[.val (cZ),.val (nK)],[.val ((.int .i64))],fun z=>qU z.1 z.2.1⟩
def clipMOS:FSpec:=⟨[.take 42 (hJ)],[.own 42 (hJ)],fun z=>some (idL z.1,())⟩
def icopyHS:FSpec:=⟨[.val (cZ)],[.str (aK9)],fun z=>wL z.1⟩
def cofLS:FSpec:=⟨[.val (cZ),.val ((.int .i64))],[.own 3 ((.int .i64))],fun z=>cof z.1 z.2.1⟩
def maxL15S:FSpec:=⟨[.val (bA)],[.val ((.int .i64))],fun z=>wB z.1⟩
def pleastS:FSpec:=⟨[.val (cZ),.val (nK),.val ((.int .i64))],[.own 3 ((.int .i64)),.val (.bool)],fun z=>pF z.1 z.2.1 z.2.2.1⟩
def pfillS:FSpec:=⟨[.val (cZ),.val (nK)],[.val (cZ),.val (.bool)],fun z=>lI z.1 z.2.1⟩
def sane15S:FSpec:=⟨[.val (cZ)],[.val (.bool)],fun z=>some (uY z.1,())⟩
def typed15S:FSpec:=⟨[.val (cZ)],[.val (nK),.val (.bool)],fun z=>xS z.1⟩
def awake15S:FSpec:=⟨[],[.val (.bool)],fun _=>awake15N⟩
def aBj:List Ty:=[cZ,(.int .u8),(.int .u8)]
noncomputable def potFillsS:FSpec:=⟨[.val (cZ),.val ((.int .u8)),.val ((.int .u8))],[.val (.bool)],fun z=>@ite _ (xI Tryz.prog aBj z) (Classical.propDecidable _) (some (true,())) none⟩
theorem aFS:FOk Tryz.prog 106 sortIS:=sort_fok 3 ⟨_,Tryz.func106,by kernel_rfl,by kernel_rfl⟩ Tryz.slices_Sort_int Tryz.slices_Sort_int_none
theorem aSh:FOk Tryz.prog 108 compactIS:=compact_fok 3 ⟨_,Tryz.func108,by kernel_rfl,by kernel_rfl⟩ Tryz.slices_Compact_int Tryz.slices_Compact_int_empty
theorem aAQ:FOk Tryz.prog 99 rinS:=fk (cx [] [] 18 []) ⟨[(2,(4,[.val 5 ((.int .i64)) false]))],[],[],[]⟩ trivial Tryz.func99 fun z r _ h=>(aNA z.1 z.2.1 r h).elim fun k hk=>⟨k,.trans (by kernel_rfl) hk⟩
theorem aNL:FOk Tryz.prog 76 rargsS:=fk (cx [(99,rinS)] [] 24 []) A0 ⟨aAQ,trivial⟩ Tryz.func76 fun z r _ h=>⟨0,.trans (by kernel_rfl) ((aNK z.1).trans h)⟩
theorem aNx:FOk Tryz.prog 70 rinstrS:=fk (cx [(76,rargsS)] [] 45 [1]) ⟨[],[(2,(2,[]))],[],[]⟩ ⟨aNL,trivial⟩ Tryz.func70 fun z r _ h=>⟨0,.trans (by kernel_rfl) ((aNw z.1).trans h)⟩
theorem aSN:FOk Tryz.prog 104 clipCS:=fk (cx [] [] 9 []) A0 trivial Tryz.func104 fun z r _ h=>⟨0,.trans (by kernel_rfl) ((aSM z.1).trans h)⟩
theorem aSB:FOk Tryz.prog 145 clipTS:=fk (cx [] [] 9 []) A0 trivial Tryz.func145 fun z r _ h=>⟨0,.trans (by kernel_rfl) ((aSA z.1).trans h)⟩
theorem aJ8:FOk Tryz.prog 107 clipIS:=fk (cx [] [] 9 []) A0 trivial Tryz.func107 fun z r _ h=>⟨0,.trans (by kernel_rfl) ((aSI z.1).trans h)⟩
theorem aSz:FOk Tryz.prog 150 clipXS:=fk (cx [] [] 9 []) A0 trivial Tryz.func150 fun z r _ h=>⟨0,.trans (by kernel_rfl) ((aSy z.1).trans h)⟩
theorem aSH:FOk Tryz.prog 147 clipJS:=fk (cx [] [] 9 []) A0 trivial Tryz.func147 fun z r _ h=>⟨0,.trans (by kernel_rfl) ((aSG z.1).trans h)⟩
def cloneTS0:FSpec:=⟨[.full (bW) false],[.val (bW)],fun _=>some (([]:List Tp),())⟩
def cloneTS1:FSpec:=⟨[.full (bW) true],[.val (bW)],fun z=>aB6 z.1⟩
theorem aSo:FOk Tryz.prog 146 cloneTS0:=fk (cx [] [] 8 []) A0 trivial Tryz.func146 fun z r _ h=>⟨0,.trans (by kernel_rfl) h⟩
theorem aSn:FOk Tryz.prog 146 cloneTS1:=fk (cx [] [] 8 []) A0 trivial Tryz.func146 fun z r _ h=>⟨0,.trans (by kernel_rfl) h⟩
theorem aSp:FOk Tryz.prog 146 cloneTS:=FOk.split _ aSn aSo (fun _ h=>h)
def cloneJS0:FSpec:=⟨[.full (jK) false],[.val (jK)],fun _=>some (([]:List Int),())⟩
def cloneJS1:FSpec:=⟨[.full (jK) true],[.val (jK)],fun z=>aB7 z.1⟩
theorem aSr:FOk Tryz.prog 148 cloneJS0:=fk (cx [] [] 8 []) A0 trivial Tryz.func148 fun z r _ h=>⟨0,.trans (by kernel_rfl) h⟩
theorem aSq:FOk Tryz.prog 148 cloneJS1:=fk (cx [] [] 8 []) A0 trivial Tryz.func148 fun z r _ h=>⟨0,.trans (by kernel_rfl) h⟩
theorem aSs:FOk Tryz.prog 148 cloneJS:=FOk.split _ aSq aSr (fun _ h=>h)
def cloneIS0:FSpec:=⟨[.full (bA) false],[.val (bA)],fun _=>some (([]:List Int),())⟩
def cloneIS1:FSpec:=⟨[.full (bA) true],[.val (bA)],fun z=>aB8 z.1⟩
theorem aSu:FOk Tryz.prog 149 cloneIS0:=fk (cx [] [] 8 []) A0 trivial Tryz.func149 fun z r _ h=>⟨0,.trans (by kernel_rfl) h⟩
theorem aSt:FOk Tryz.prog 149 cloneIS1:=fk (cx [] [] 8 []) A0 trivial Tryz.func149 fun z r _ h=>⟨0,.trans (by kernel_rfl) h⟩
theorem aSv:FOk Tryz.prog 149 cloneIS:=FOk.split _ aSt aSu (fun _ h=>h)
def cloneXS0:FSpec:=⟨[.full (lD) false],[.val (lD)],fun _=>some (([]:List Ins),())⟩
def cloneXS1:FSpec:=⟨[.full (lD) true],[.val (lD)],fun z=>aB5 z.1⟩
theorem aSl:FOk Tryz.prog 151 cloneXS0:=fk (cx [] [] 8 []) A0 trivial Tryz.func151 fun z r _ h=>⟨0,.trans (by kernel_rfl) h⟩
theorem aSk:FOk Tryz.prog 151 cloneXS1:=fk (cx [] [] 8 []) A0 trivial Tryz.func151 fun z r _ h=>⟨0,.trans (by kernel_rfl) h⟩
theorem aSm:FOk Tryz.prog 151 cloneXS:=FOk.split _ aSk aSl (fun _ h=>h)
theorem aTh:FOk Tryz.prog 100 anTS:=fk (cx [(145,clipTS),(146,cloneTS)] [] 6 []) A0 ⟨aSB,aSp,trivial⟩ Tryz.func100 fun z r _ h=>⟨0,.trans (by kernel_rfl) h⟩
theorem aTj:FOk Tryz.prog 101 anJS:=fk (cx [(147,clipJS),(148,cloneJS)] [] 6 []) A0 ⟨aSH,aSs,trivial⟩ Tryz.func101 fun z r _ h=>⟨0,.trans (by kernel_rfl) h⟩
theorem aTk:FOk Tryz.prog 102 anIS:=fk (cx [(107,clipIS),(149,cloneIS)] [] 6 []) A0 ⟨aJ8,aSv,trivial⟩ Tryz.func102 fun z r _ h=>⟨0,.trans (by kernel_rfl) h⟩
theorem aTg:FOk Tryz.prog 103 anXS:=fk (cx [(150,clipXS),(151,cloneXS)] [] 6 []) A0 ⟨aSz,aSm,trivial⟩ Tryz.func103 fun z r _ h=>⟨0,.trans (by kernel_rfl) h⟩
theorem aIr:FOk Tryz.prog 143 kisrefS:=fk (cx [] [] 16 [1]) A0 trivial Tryz.func143 fun z r _ h=>⟨0,.trans (by kernel_rfl) ((aQg z.1).trans h)⟩
theorem aQd:FOk Tryz.prog 180 kupS:=fk (cx [] [] 27 []) A0 trivial Tryz.func180 fun z r _ h=>⟨0,.trans (by kernel_rfl) ((aQc z.1 z.2.1).trans h)⟩
theorem aIu:FOk Tryz.prog 135 kbelowS:=fk (cx [(180,kupS)] [] 29 []) ⟨[(3,(4,[.val 1 ((.int .i64)) false]))],[],[],[]⟩ ⟨aQd,trivial⟩ Tryz.func135 fun z r _ h=>(aQi z.1 z.2.1 z.2.2.1).elim fun k hk=>⟨k,.trans (by kernel_rfl) (hk.trans h)⟩
theorem aQf:FOk Tryz.prog 144 ksubS:=fk (cx [(135,kbelowS),(143,kisrefS)] [] 41 [4,5]) A0 ⟨aIu,aIr,trivial⟩ Tryz.func144 fun z r _ h=>⟨0,.trans (by kernel_rfl) ((aQe z.1 z.2.1 z.2.2.1).trans h)⟩
theorem aAU:FOk Tryz.prog 89 raboveS:=fk (cx [] [16] 30 []) ⟨[(2,(6,[.val 1 ((.int .i64)) false,.val 5 (bA) true]))],[],[],[]⟩ trivial Tryz.func89 fun z r _ h=>(aNM z.1 z.2.1 r h).elim fun k hk=>⟨k,.trans (by kernel_rfl) hk⟩
theorem aGl:FOk Tryz.prog 52 risrefS:=fk (cx [] [] 16 [1]) A0 trivial Tryz.func52 fun z r _ h=>⟨0,.trans (by kernel_rfl) ((aNp z.1).trans h)⟩
theorem aGu:FOk Tryz.prog 130 rgoodS:=fk (cx [] [] 34 [2]) A0 trivial Tryz.func130 fun z r _ h=>⟨0,.trans (by kernel_rfl) ((aNC z.1 z.2.1).trans h)⟩
theorem aC4:FOk Tryz.prog 53 rsubS:=fk (cx [(52,risrefS),(89,raboveS),(99,rinS)] [] 40 [4,5]) ⟨[],[],[(4,[[],[],[],[],[],[4],[4],[],[4,5,6,7],[4,5,6,7],[],[],[]])],[]⟩ ⟨aGl,aAU,aAQ,trivial⟩ Tryz.func53 fun z r _ h=>⟨0,.trans (by kernel_rfl) (aNf z.1 z.2.1 z.2.2.1 r h)⟩
theorem aC3:FOk Tryz.prog 60 rtypesS:=fk (cx [] [] 26 []) ⟨[(4,(4,[.val 5 ((.int .i64)) false]))],[],[(6,[[],[0],[],[],[0,1,2,3],[0,1,2,3,4],[0,1,2,3],[0,1,2,3],[]])],[]⟩ trivial Tryz.func60 fun z r hl h=>(aNb z.1 z.2.1 hl).elim fun k hk=>⟨k,.trans (by kernel_rfl) (hk.trans h)⟩
theorem aNs:FOk Tryz.prog 54 rintsS:=fk (cx [] [] 26 []) ⟨[(4,(4,[.val 5 ((.int .i64)) false]))],[],[(6,[[],[0],[],[],[0,1,2,3],[0,1,2,3,4],[0,1,2,3],[0,1,2,3],[]])],[]⟩ trivial Tryz.func54 fun z r hl h=>(aNr z.1 z.2.1 hl).elim fun k hk=>⟨k,.trans (by kernel_rfl) (hk.trans h)⟩
theorem aDa:FOk Tryz.prog 68 r5inS:=fk (cx [] [] 15 []) A0 trivial Tryz.func68 fun z r _ h=>⟨0,.trans (by kernel_rfl) ((aOi z.1 z.2.1 z.2.2.1).trans h)⟩
theorem aOg:FOk Tryz.prog 67 r5listS:=fk (cx [(68,r5inS)] [] 25 []) ⟨[(4,(4,[.val 7 ((.int .i64)) false]))],[],[],[]⟩ ⟨aDa,trivial⟩ Tryz.func67 fun z r hl h=>(aOf z.1 z.2.1 z.2.2.1 hl).elim fun k hk=>⟨k,.trans (by kernel_rfl) (hk.trans h)⟩
theorem aGK:FOk Tryz.prog 69 r5typS:=fk (cx [(68,r5inS)] [] 21 [1]) A0 ⟨aDa,trivial⟩ Tryz.func69 fun z r _ h=>⟨0,.trans (by kernel_rfl) ((aN1 z.1).trans h)⟩
theorem aNZ:FOk Tryz.prog 66 r5typesS:=fk (cx [(69,r5typS)] [] 22 []) ⟨[(4,(4,[.val 5 ((.int .i64)) false]))],[],[],[]⟩ ⟨aGK,trivial⟩ Tryz.func66 fun z r hl h=>(aNY z.1 z.2.1 hl).elim fun k hk=>⟨k,.trans (by kernel_rfl) (hk.trans h)⟩
theorem aOm:FOk Tryz.prog 34 r5fitsS:=fk (cx [(66,r5typesS),(67,r5listS),(68,r5inS),(69,r5typS),(70,rinstrS)] [] 142 [1,4,6]) ⟨[(4,(5,[.val 3 ((.int .i64)) false])),(10,(10,[.val 5 ((.int .i64)) false])),(16,(4,[.val 7 ((.int .i64)) false]))],[],[],[]⟩ ⟨aNZ,aOg,aDa,aGK,aNx,trivial⟩ Tryz.func34 fun z r hl h=>(aOl z.1 hl).elim fun k hk=>⟨k,.trans (by kernel_rfl) (hk.trans h)⟩
theorem aN7:FOk Tryz.prog 24 r5sameS:=fk (cx [(54,rintsS),(60,rtypesS)] [] 211 [2,3,7,8,10,11]) ⟨[(4,(4,[.val 5 ((.int .i64)) false])),(9,(5,[.val 6 ((.int .i64)) false])),(15,(10,[.val 9 ((.int .i64)) false])),(21,(4,[.val 12 ((.int .i64)) false]))],[],[(6,[[],[],[0,1],[],[],[0,1,2,3,4],[0,1,2,3,4],[0,1,2,3,4,5,6],[0,1,2,3,4],[0,1,2,3,4],[]]),(11,[[],[],[0,1],[],[],[0,1,2,3,4],[0,1,2,3,4],[0,1,2,3,4,5,6],[0,1,2,3,4],[0,1,2,3,4],[0,1,2,3,4,5,6,7,8,9],[0,1,2,3,4,5,6,7,8,9,10],[5,6,7,8,9],[]]),(17,[[],[],[0,1],[],[],[0,1,2,3,4],[0,1,2,3,4],[0,1,2,3,4,5,6],[0,1,2,3,4],[0,1,2,3,4],[0,1,2,3,4,5,6,7,8,9],[0,1,2,3,4,5,6,7,8,9,10],[5,6,7,8,9],[]]),(23,[[],[],[0,1],[],[],[0,1,2,3,4],[0,1,2,3,4],[0,1,2,3,4,5,6],[0,1,2,3,4],[0,1,2,3,4],[]])],[(11,[0,1,2,3,4,8,9,10,11,12,5,6,7,13]),(17,[0,1,2,3,4,8,9,10,11,12,5,6,7,13])]⟩ ⟨aNs,aC3,trivial⟩ Tryz.func24 fun z r hl h=>(aN6 z.1 z.2.1 hl).elim fun k hk=>⟨k,.trans (by kernel_rfl) (hk.trans h)⟩
theorem aA8:FOk Tryz.prog 45 r5fieldsS:=fk (cx [(89,raboveS)] [20,31] 32 [2]) ⟨[(4,(3,[.val 6 (bW) true,.val 7 ((.int .i64)) false]))],[],[(6,[[],[0],[0],[0,1,2],[0,1,2,3],[0,1,2],[0,1,2],[0],[0],[0],[],[]])],[]⟩ ⟨aAU,trivial⟩ Tryz.func45 fun z r _ h=>(aOo z.1 z.2.1 r h).elim fun k hk=>⟨k,.trans (by kernel_rfl) hk⟩
theorem aDb:FOk Tryz.prog 79 r5goodS:=fk (cx [(130,rgoodS)] [] 21 [2]) ⟨[(2,(4,[.val 5 ((.int .i64)) false]))],[],[(4,[[],[0],[],[],[0,1,2,3],[0,1,2,3],[0,1,2,3],[],[]])],[]⟩ ⟨aGu,trivial⟩ Tryz.func79 fun z r hl h=>(aOj z.1 z.2.1 hl).elim fun k hk=>⟨k,.trans (by kernel_rfl) (hk.trans h)⟩
theorem aOq:FOk Tryz.prog 80 r5classS:=fk (cx [(45,r5fieldsS),(53,rsubS),(60,rtypesS),(79,r5goodS)] [] 118 [2,5,8,9]) ⟨[(10,(11,[.val 7 ((.int .i64)) false]))],[(5,(2,[.val 6 (bA) false])),(12,(9,[]))],[(12,[[],[],[0,1],[],[],[0,1,2,3,4],[0,1,2,3,4],[0,1,2,3,4],[]]),(14,[[],[],[0,1],[0,1],[0,1,2,3],[0,1],[0,1],[],[],[0,1,2,3,4,5,6,7,8],[]]),(15,[[],[],[],[],[],[],[],[5,6],[5,6],[5,6,7,8],[5,6,7,8],[5,6,7,8],[5,6,7,8],[],[],[]]),(18,[[],[],[0,1],[0,1,2],[0,1],[0,1],[],[],[0,1,2,3,4,5,6,7],[]]),(19,[[],[],[],[0,1,2],[0,1,2],[0,1,2],[],[],[],[],[],[9,10],[9,10],[],[]])],[]⟩ ⟨aA8,aC4,aC3,aDb,trivial⟩ Tryz.func80 fun z r _ h=>(aOp z.1 z.2.1 r h).elim fun k hk=>⟨k,.trans (by kernel_rfl) hk⟩
theorem aOa:FOk Tryz.prog 131 r5namedS:=fk (cx [(45,r5fieldsS)] [] 105 [3,4,5]) ⟨[],[(4,(2,[.val 17 (.bool) false])),(7,(2,[.val 30 (.bool) false])),(10,(2,[.val 39 (.bool) false])),(13,(2,[.val 48 (.bool) false])),(16,(2,[.val 67 (.bool) false]))],[(15,[[],[],[0,1],[0,1],[0,1],[],[],[],[],[7,8],[7,8,9],[7,8,9],[7,8],[7,8],[],[],[]]),(22,[[],[],[0,1],[0,1],[0,1],[],[],[],[],[7,8],[7,8],[7,8,9,10],[7,8,9,10],[7,8],[7,8],[7,8],[7,8],[],[],[]])],[]⟩ ⟨aA8,trivial⟩ Tryz.func131 fun z r _ h=>⟨0,.trans (by kernel_rfl) (aN9 z.1 z.2.1 z.2.2.1 r h)⟩
theorem aOc:FOk Tryz.prog 81 r5methodS:=fk (cx [(79,r5goodS),(130,rgoodS),(131,r5namedS)] [] 74 [2,3]) ⟨[(4,(4,[.val 5 ((.int .i64)) false]))],[(1,(2,[]))],[(6,[[],[0],[0,1],[0,1],[0,1,2,3],[0,1],[0,1],[],[]])],[]⟩ ⟨aDb,aGu,aOa,trivial⟩ Tryz.func81 fun z r _ h=>(aOb z.1 z.2.1 r h).elim fun k hk=>⟨k,.trans (by kernel_rfl) hk⟩
theorem aGN:FOk Tryz.prog 39 r5saneS:=fk (cx [(34,r5fitsS),(79,r5goodS),(80,r5classS),(81,r5methodS)] [] 111 [1]) ⟨[(5,(3,[.val 3 (.bool) false,.val 4 ((.int .i64)) false])),(9,(3,[.val 3 (.bool) false,.val 5 ((.int .i64)) false])),(13,(10,[.val 3 (.bool) false,.val 6 ((.int .i64)) false])),(20,(3,[.val 3 (.bool) false,.val 8 ((.int .i64)) false]))],[(4,(4,[.val 3 (.bool) false])),(8,(4,[.val 3 (.bool) false])),(18,(1,[.val 3 (.bool) false]))],[(11,[[],[0],[0],[0,1,2],[0],[0],[],[]])],[]⟩ ⟨aOm,aDb,aOq,aOc,trivial⟩ Tryz.func39 fun z r hl h=>(aN4 z.1 hl).elim fun k hk=>⟨k,.trans (by kernel_rfl) (hk.trans h)⟩
theorem aSU:FOk Tryz.prog 87 cbelowS:=fk (cx [(107,clipIS),(135,kbelowS)] [18] 25 [2]) ⟨[(3,(5,[.val 5 (bA) true,.val 10 ((.int .i64)) false]))],[],[],[]⟩ ⟨aJ8,aIu,trivial⟩ Tryz.func87 fun z r _ h=>(aST z.1 z.2.1 r h).elim fun k hk=>⟨k,.trans (by kernel_rfl) hk⟩
theorem aJJ:FOk Tryz.prog 88 cslotS:=fk (cx [] [] 41 [3]) A0 trivial Tryz.func88 fun z r _ h=>⟨0,.trans (by kernel_rfl) ((aJI z.1 z.2.1 z.2.2.1).trans h)⟩
theorem aJG:FOk Tryz.prog 44 ctargetsS:=fk (cx [(87,cbelowS),(88,cslotS)] [14,39,44] 45 [2,3]) ⟨[(7,(6,[.val 5 (bA) true,.val 26 ((.int .i64)) false]))],[],[],[]⟩ ⟨aSU,aJJ,trivial⟩ Tryz.func44 fun z r _ h=>(aRZ z.1 z.2.1 r h).elim fun k hk=>⟨k,.trans (by kernel_rfl) hk⟩
theorem aOs:FOk Tryz.prog 90 r5belowS:=fk (cx [(89,raboveS),(99,rinS)] [21,25] 26 [2]) ⟨[(3,(4,[.val 5 (bA) true,.val 6 ((.int .i64)) false]))],[],[],[]⟩ ⟨aAU,aAQ,trivial⟩ Tryz.func90 fun z r _ h=>(aOr z.1 z.2.1 r h).elim fun k hk=>⟨k,.trans (by kernel_rfl) hk⟩
theorem aGM:FOk Tryz.prog 91 r5slotS:=fk (cx [] [] 41 [3]) A0 trivial Tryz.func91 fun z r _ h=>⟨0,.trans (by kernel_rfl) ((aN2 z.1 z.2.1 z.2.2.1).trans h)⟩
theorem aNQ:FOk Tryz.prog 46 r8targetsS:=fk (cx [(90,r5belowS),(91,r5slotS)] [14,44,48] 49 [2,3]) ⟨[(7,(5,[.val 5 (bA) true,.val 7 ((.int .i64)) false]))],[(2,(2,[.val 5 (bA) true]))],[(9,[[],[0],[0,1],[0],[0],[0,1,2,3,4],[0,1,2,3,4],[],[],[],[9],[10],[]])],[(9,[0,1,2,3,4,5,6,7,8,9,11,10,12])]⟩ ⟨aOs,aGM,trivial⟩ Tryz.func46 fun z r _ h=>(aNP z.1 z.2.1 r h).elim fun k hk=>⟨k,.trans (by kernel_rfl) hk⟩
theorem aRr:FOk Tryz.prog 154 fenterS:=fk {cx [] [41] 47 [1002000001,1002000002,1002000003,1002000004,1002000006,1000000,44] with rows:=[44] } ⟨[],[],[(1,[[],[],[],[],[0,1,2,3],[0,1,2,3,4],[0,1,2,3,4],[0,1,2,3,4],[0,1,2,3,4],[0,1,2,3,4,5,6,7,8],[0,1,2,3,4,5,6,7,8,9],[0,1,2,3,4,5,6,7,8,9],[0,1,2,3,4,5,6,7,8,9],[0,1,2,3,4,5,6,7,8,9],[0,1,2,3,4,5,6,7,8,9,10,11,12,13],[0,1,2,3,4,5,6,7,8,9,10,11,12,13],[0,1,2,3,4,5,6,7,8,9,10,11,12,13],[0,1,2,3,4,5,6,7,8,9,10,11,12,13],[9],[9],[],[]])],[(1,[0,1,2,3,4,5,6,7,8,19,9,10,11,12,13,14,15,16,17,18,20,21])]⟩ trivial Tryz.func154 fun z r _ h=>⟨0,.trans (by kernel_rfl) h⟩
theorem aJ6:FOk Tryz.prog 107 clipIOS:=fk {cx [] [] 9 [0,8] with rows:=[1,8] } A0 trivial Tryz.func107 fun z r _ h=>⟨0,.trans (by kernel_rfl) ((aSJ z.1).trans h)⟩
theorem aRb:FOk Tryz.prog 155 fleaveS:=fk {cx [(1000000000106,sortIS),(1000000000107,clipIOS)] [50,63] 70 [1002000001,1002000002,1002000003,1002000004,1002000006,1000000,4,41,53,65,67] with rows:=[4,41,53,65,67],thaws:=[65] } ⟨[(2,(6,[.own 4 3 ((.int .i64)),.lnk 1002000003 4 (.bool),.lnk 1002000004 3 ((.int .i64))]))],[],[(0,[[],[],[],[],[0,1,2,3],[],[],[0,1,2,3,4,5,6],[0,1,2,3,4,5,6],[0,1,2,3,4,5,6],[0,1,2,3,4,5,6],[0,1,2,3,4,5,6,7,8,9,10],[0,1,2,3,4,5,6],[0,1,2,3,4,5,6],[]]),(9,[[],[0],[0],[0],[0],[0,1,2,3,4],[0,1,2,3,4],[0,1,2,3,4],[0],[],[],[]])],[]⟩ ⟨aFS,aJ6,trivial⟩ Tryz.func155 fun z r _ h=>(aRa z.1 z.2.1 r h).elim fun k hk=>⟨k,.trans (by kernel_rfl) hk⟩
theorem aRo:FOk Tryz.prog 109 ffromS:=fk {cx [(154,fenterS),(155,fleaveS)] [83] 169 [1002000001,1002000002,1002000003,1002000004,1002000006,1000000,11,4,87,134] with rows:=[4,11,87,134] } ⟨[(2,(17,[.own 4 188 (dT),.lnk 1002000001 3 ((.int .i64)),.lnk 1002000002 3 ((.int .i64)),.lnk 1002000003 4 (.bool),.lnk 1002000004 3 ((.int .i64)),.lnk 1002000006 26 (bA),.box 1000000 155 [(lF,false),(.any,false),(.any,false),(.any,false),(.any,false),((.int .i64),false),(.any,false)]])),(4,(9,[.own 4 188 (dT),.ptr 5 4 0 2,.lnk 1002000002 3 ((.int .i64))]))],[(7,(1,[.val 62 (.bool) false]))],[(4,[[],[],[],[],[0,1,2,3],[0,1,2,3],[0,1,2,3],[0,1,2,3],[0,1,2,3,4,5,6,7],[0,1,2,3,4,5,6,7],[0,1,2,3,4,5,6,7],[0,1,2,3,4,5,6,7],[0,1,2,3],[0,1,2,3],[0,1,2,3],[]]),(5,[[],[],[],[],[0,1,2,3],[0,1,2,3],[0,1,2,3],[0,1,2,3],[],[],[0,1,2,3,4,5,6,7,8,9],[0,1,2,3,4,5,6,7,8,9],[0,1,2,3,4,5,6,7,8,9],[0,1,2,3,4,5,6,7,8,9],[],[],[]]),(12,[[],[],[],[],[0,1,2,3],[0,1,2,3],[0,1,2,3],[0,1,2,3],[0,1,2,3,4,5,6,7],[0,1,2,3,4,5,6,7],[0,1,2,3,4,5,6,7],[0,1,2,3,4,5,6,7],[0,1,2,3,4,5,6,7,8,9,10,11],[0,1,2,3,4,5,6,7,8,9,10,11],[0,1,2,3,4,5,6,7,8,9,10,11],[0,1,2,3,4,5,6,7,8,9,10,11],[0,1,2,3,4,5,6,7],[0,1,2,3,4,5,6,7],[0,1,2,3,4,5,6,7,8,9,10,11,12,13,14,15,16,17],[0,1,2,3,4,5,6,7,8,9,10,11,12,13,14,15,16,17],[0,1,2,3,4,5,6,7,8,9,10,11,12,13,14,15,16,17],[0,1,2,3,4,5,6,7,8,9,10,11,12,13,14,15,16,17],[0,1,2,3,4,5,6,7,8,9,10,11,12,13,14,15,16,17,18,19,20,21],[0,1,2,3,4,5,6,7,8,9,10,11,12,13,14,15,16,17],[0,1,2,3,4,5,6,7,8,9,10,11,12,13,14,15,16,17],[0,1,2,3,4,5,6,7],[],[]]),(18,[[],[],[],[],[0,1,2,3],[0,1,2,3,4],[0,1,2,3,4],[0,1,2,3,4],[0,1,2,3,4],[0,1,2,3,4,5,6,7,8],[0,1,2,3,4],[0,1,2,3,4],[0,1,2,3,4,5,6,7,8,9,10,11],[0,1,2,3,4,5,6,7,8,9,10,11],[0,1,2,3,4,5,6,7,8,9,10,11],[0,1,2,3,4,5,6,7,8,9,10,11],[0,1,2,3,4,5,6,7,8,9,10,11,12,13,14,15],[0,1,2,3,4,5,6,7,8,9,10,11],[0,1,2,3,4,5,6,7,8,9,10,11],[0,1,2,3,4],[],[]])],[]⟩ ⟨aRr,aRb,trivial⟩ Tryz.func109 fun z r _ h=>(aRn z.1 z.2.1 r h).elim fun k hk=>⟨k,.trans (by kernel_rfl) hk⟩
theorem aSL:FOk Tryz.prog 110 clipIIOS:=fk {cx [] [] 9 [0,8] with rows:=[1,8] } A0 trivial Tryz.func110 fun z r _ h=>⟨0,.trans (by kernel_rfl) ((aSK z.1).trans h)⟩
theorem aNz:FOk Tryz.prog 57 ringsS:=fk {cx [(109,ffromS),(1000000000110,clipIIOS)] [] 39 [2,10,12,14,2016001,2016002,2016003,2016004,2016006,16,38] with rows:=[2,10,12,14,38],lnks:=[(155,[1,2,3,4,6])] } ⟨[(4,(5,[.val 19 ((.int .i64)) false,.lnk 2016001 3 ((.int .i64)),.lnk 2016002 3 ((.int .i64)),.lnk 2016003 4 (.bool),.lnk 2016004 3 ((.int .i64)),.lnk 2016006 26 (bA),.box 16 155 [(lF,false),(.any,false),(.any,false),(.any,false),(.any,false),((.int .i64),false),(.any,false)]]))],[],[(2,[[],[0],[0],[0,1,2],[0,1,2],[0,1,2,3,4],[0,1,2,3,4],[],[],[]])],[]⟩ ⟨aRo,aSL,trivial⟩ Tryz.func57 fun z r _ h=>(aNy z.1 r h).elim fun k hk=>⟨k,.trans (by kernel_rfl) hk⟩
theorem aOe:FOk Tryz.prog 97 r5localS:=fk (cx [] [] 26 [2,4]) ⟨[],[],[(1,[[],[0],[0],[],[0,1,2,3],[0,1,2,3],[],[]])],[]⟩ trivial Tryz.func97 fun z r _ h=>⟨0,.trans (by kernel_rfl) h⟩
theorem aNo:FOk Tryz.prog 129 rjoinS:=fk (cx [(53,rsubS),(89,raboveS),(99,rinS)] [] 55 [4,5,6]) ⟨[(9,(4,[.val 9 ((.int .i64)) false]))],[],[(7,[[],[0],[0],[],[0,1,2,3],[0,1,2,3,4],[0,1,2,3,4],[],[],[]])],[]⟩ ⟨aC4,aAU,aAQ,trivial⟩ Tryz.func129 fun z r _ h=>(aNn z.1 z.2.1 z.2.2.1 r h).elim fun k hk=>⟨k,.trans (by kernel_rfl) hk⟩
theorem aNW:FOk Tryz.prog 98 r8givesS:=fk (cx [] [] 10 [1]) A0 trivial Tryz.func98 fun z r _ h=>⟨0,.trans (by kernel_rfl) h⟩
theorem aNV:FOk Tryz.prog 51 r8ruleS:=fk (cx [(45,r5fieldsS),(91,r5slotS),(97,r5localS),(98,r8givesS)] [] 218 [3,5,8,9,10,11,12]) ⟨[],[],[(5,[[],[],[0,1],[]]),(7,[[],[],[0,1],[]]),(9,[[],[],[0,1],[],[],[0,1,2,3,4],[0,1,2,3,4],[],[],[8],[]]),(11,[[],[],[0,1],[],[],[0,1,2,3,4],[0,1,2,3,4],[],[],[],[]]),(17,[[],[],[0,1],[0,1],[2,3],[]]),(19,[[],[0],[],[0,1,2],[0,1,2],[3,4],[]]),(21,[[],[],[0,1],[]]),(23,[[],[],[0,1],[0,1],[2,3],[]]),(25,[[],[0],[],[0,1,2],[0,1,2],[3,4],[]]),(29,[[],[],[0,1],[0,1],[2,3],[]]),(31,[[],[],[0,1],[0,1,2],[0,1,2],[0,1],[0,1,2,3,4,5],[0,1,2,3,4,5],[0,1,2,3,4,5,6,7],[0,1,2,3,4,5,6,7],[0,1,2,3,4,5,6,7],[0,1],[6,7,8,9,10,11],[]]),(33,[[],[0],[0,1],[0,1],[0],[0,1,2,3,4],[0,1,2,3,4],[0],[0],[],[],[]]),(35,[[],[],[0,1],[0,1],[],[],[],[0,1,2,3,4,5,6],[]]),(39,[[],[],[0,1],[0,1],[2,3],[]]),(43,[[],[],[0,1],[0,1],[],[],[],[0,1,2,3,4,5,6],[0,1,2,3,4,5,6],[0,1,2,3,4,5,6,7,8],[0,1,2,3,4,5,6,7,8],[0,1,2,3,4,5,6],[0,1,2,3,4,5,6],[0,1,2,3,4,5,6],[],[]]),(46,[[],[],[0,1],[0,1],[0,1,2,3],[0,1],[0,1],[0,1],[0,1],[],[0,1,2,3,4,5,6,7,8,9],[0,1,2,3,4,5,6,7,8,9],[0,1,2,3,4,5,6,7,8,9,10,11],[0,1,2,3,4,5,6,7,8,9],[0,1,2,3,4,5,6,7,8,9],[],[],[]]),(48,[[],[0],[],[0,1,2],[0,1,2],[3,4],[]])],[(5,[1,2,0,3]),(7,[1,2,0,3]),(9,[0,1,2,3,4,5,6,7,9,8,10]),(17,[0,1,3,4,2,5]),(19,[0,1,2,4,5,3,6]),(21,[1,2,0,3]),(23,[0,1,3,4,2,5]),(25,[0,1,2,4,5,3,6]),(29,[0,1,3,4,2,5]),(35,[1,2,3,4,5,6,7,0,8]),(39,[0,1,3,4,2,5]),(48,[0,1,2,4,5,3,6])]⟩ ⟨aA8,aGM,aOe,aNW,trivial⟩ Tryz.func51 fun z r _ h=>⟨0,.trans (by kernel_rfl) h⟩
theorem aGF:FOk Tryz.prog 21 r8stepS:=fk (cx [(51,r8ruleS),(52,risrefS),(53,rsubS)] [65] 196 [4,11,15,18,19]) ⟨[(21,(9,[.val 17 ((.int .i64)) false]))],[(5,(2,[.val 12 (bA) true])),(7,(2,[.val 12 (bA) true])),(9,(2,[.val 12 (bA) true])),(11,(2,[])),(14,(3,[.val 13 (bW) false,.val 14 (bW) false])),(14,(1,[.val 104 (.bool) false])),(17,(2,[]))],[(11,[[],[],[],[],[],[],[],[4,5,6],[4,5,6],[4,5,6,7,8],[4,5,6],[4,5,6],[4,5,6],[4,5,6],[],[]]),(16,[[],[],[0,1],[0,1,2],[0,1],[2,3,4],[]]),(23,[[],[0],[0,1],[0],[],[],[0,1,2,3,4,5],[0,1,2,3,4,5,6],[0,1,2,3,4,5],[0,1,2,3,4,5],[0,1,2,3,4,5,6,7,8,9],[0,1,2,3,4,5,6,7,8,9,10],[6,7,8,9],[]])],[(16,[0,1,3,4,5,2,6]),(23,[0,1,2,3,4,5,9,10,11,12,6,7,8,13])]⟩ ⟨aNV,aGl,aC4,trivial⟩ Tryz.func21 fun z r _ h=>(aNS z.1 z.2.1 z.2.2.1 z.2.2.2.1 r h).elim fun k hk=>⟨k,.trans (by kernel_rfl) hk⟩
theorem aNU:FOk Tryz.prog 78 r8shapesS:=fk {cx [(21,r8stepS),(60,rtypesS),(129,rjoinS)] [119] 139 [2,27,18] with rows:=[27] } ⟨[(7,(32,[.val 8 ((.int .i64)) false,.row 27 52 (uS)])),(11,(26,[.val 9 (.bool) false,.val 10 ((.int .i64)) false,.row 27 52 (uS)])),(18,(19,[.val 9 (.bool) false,.val 14 ((.int .i64)) false,.row 27 52 (uS)])),(28,(6,[.val 16 (bW) true,.val 17 ((.int .i64)) false]))],[],[(14,[[],[0],[0,1],[0,1,2],[0,1,2,3],[0,1,2],[0,1,2],[0,1,2],[],[],[],[10],[10,11],[11,12],[12],[]]),(30,[[],[],[0,1],[0,1,2],[0,1],[0,1],[0,1],[0,1,2,3,4,5,6],[0,1],[0,1],[0,1,2,3,4,5,6,7,8,9],[0,1,2,3,4,5,6,7,8,9,10],[0,1,2,3,4,5,6,7,8,9],[0,1,2,3,4,5,6,7,8,9],[],[0,1,2,3,4,5,6,7,8,9,10,11,12,13,14],[]])],[(14,[0,1,2,3,4,5,6,7,8,9,10,12,14,11,13,15])]⟩ ⟨aGF,aC3,aNo,trivial⟩ Tryz.func78 fun z r _ h=>(aNT z.1 z.2.1 r h).elim fun k hk=>⟨k,.trans (by kernel_rfl) hk⟩
theorem aGH:FOk Tryz.prog 38 r8allS:=fk (cx [(78,r8shapesS)] [25] 30 [1]) ⟨[(3,(6,[.val 4 (nK) true,.val 5 ((.int .i64)) false]))],[],[],[]⟩ ⟨aNU,trivial⟩ Tryz.func38 fun z r _ h=>(aNX z.1 r h).elim fun k hk=>⟨k,.trans (by kernel_rfl) hk⟩
theorem aQN:FOk Tryz.prog 137 growTS:=fk {cx [] [] 27 [4,22,25,0,26] with rows:=[0,4,20,22,25,26],thaws:=[1000009,1000017,1000018] } A0 trivial Tryz.func137 fun z r _ h=>⟨0,.trans (by kernel_rfl) (aQM z.1 z.2.1 r h)⟩
theorem aEK:FOk Tryz.prog 94 concatTS:=fk {cx [(137,growTS)] [31] 36 [24,6,33] with rows:=[6,33] } ⟨[(3,(6,[.val 3 ((.int .i64)) false,.val 11 ((.int .i64)) false])),(11,(4,[.own 6 39 (dT),.val 27 ((.int .i64)) false]))],[],[],[]⟩ ⟨aQN,trivial⟩ Tryz.func94 fun z r _ h=>(aSe z.1 r h).elim fun k hk=>⟨k,.trans (by kernel_rfl) hk⟩
theorem aQz:FOk Tryz.prog 136 indexIS:=fk (cx [] [] 19 []) ⟨[(2,(5,[.val 8 ((.int .i64)) false]))],[],[],[]⟩ trivial Tryz.func136 fun z r hl h=>(aQy z.1 z.2.1 hl).elim fun k hk=>⟨k,.trans (by kernel_rfl) (hk.trans h)⟩
theorem aJO:FOk Tryz.prog 93 containsIS:=fk (cx [(136,indexIS)] [] 9 []) A0 ⟨aQz,trivial⟩ Tryz.func93 fun z r hl h=>⟨0,.trans (by kernel_rfl) ((aR9 z.1 z.2.1 hl).trans h)⟩
theorem aSD:FOk Tryz.prog 50 clipQS:=fk (cx [] [] 9 []) A0 trivial Tryz.func50 fun z r _ h=>⟨0,.trans (by kernel_rfl) ((aSC z.1).trans h)⟩
theorem aRX:FOk Tryz.prog 134 cupS:=fk (cx [] [] 19 [2]) A0 trivial Tryz.func134 fun z r _ h=>⟨0,.trans (by kernel_rfl) (aRW z.1 z.2.1 r h)⟩
theorem aKk:FOk Tryz.prog 86 cfieldsS:=fk (cx [(94,concatTS),(134,cupS)] [] 26 [2]) ⟨[(4,(3,[.val 1 ((.int .i64)) false,.val 5 (bW) false]))],[],[],[]⟩ ⟨aEK,aRX,trivial⟩ Tryz.func86 fun z r _ h=>(aSR z.1 z.2.1 r h).elim fun k hk=>⟨k,.trans (by kernel_rfl) hk⟩
theorem aR2:FOk Tryz.prog 43 csizeS:=fk (cx [(86,cfieldsS)] [] 10 [2]) A0 ⟨aKk,trivial⟩ Tryz.func43 fun z r _ h=>⟨0,.trans (by kernel_rfl) (aR1 z.1 z.2.1 r h)⟩
theorem aSx:FOk Tryz.prog 140 clocalS:=fk (cx [] [] 40 [2,4]) A0 trivial Tryz.func140 fun z r _ h=>⟨0,.trans (by kernel_rfl) (aSw z.1 z.2.1 r h)⟩
theorem aPf:FOk Tryz.prog 184 numIsS:=fk (cx [] [] 9 []) A0 trivial Tryz.func184 fun z r _ h=>⟨0,.trans (by kernel_rfl) ((aPe z.1).trans h)⟩
theorem aQ4:FOk Tryz.prog 182 fnumberS:=fk (cx [] [] 2 [0]) A0 trivial Tryz.func182 fun z r _ h=>⟨0,.trans (by kernel_rfl) h⟩
theorem aRv:FOk Tryz.prog 183 farrayS:=fk (cx [] [] 2 [0]) A0 trivial Tryz.func183 fun z r _ h=>⟨0,.trans (by kernel_rfl) h⟩
theorem aQ3:FOk Tryz.prog 141 fobjectS:=fk (cx [] [] 5 [2]) A0 trivial Tryz.func141 fun z r _ h=>⟨0,.trans (by kernel_rfl) h⟩
theorem aQY:FOk Tryz.prog 181 fplain1S:=fk (cx [] [] 4 []) A0 trivial Tryz.func181 fun z r _ h=>⟨0,.trans (by kernel_rfl) h⟩
theorem aQ2:FOk Tryz.prog 139 fof1S:=fk (cx [] [] 5 [1]) A0 trivial Tryz.func139 fun z r _ h=>⟨0,.trans (by kernel_rfl) h⟩
theorem aRu:FOk Tryz.prog 142 fcalledS:=fk (cx [(94,concatTS)] [] 24 [2,4,5]) A0 ⟨aEK,trivial⟩ Tryz.func142 fun z r _ h=>⟨0,.trans (by kernel_rfl) (aRt z.1 z.2.1 r h)⟩
theorem aQX:FOk Tryz.prog 138 fplainS:=fk (cx [(181,fplain1S),(182,fnumberS),(183,farrayS),(184,numIsS)] [] 118 [2,5]) A0 ⟨aQY,aQ4,aRv,aPf,trivial⟩ Tryz.func138 fun z r _ h=>⟨0,.trans (by kernel_rfl) ((aQW z.1).trans h)⟩
theorem aQ1:FOk Tryz.prog 95 fofS:=fk (cx [(86,cfieldsS),(88,cslotS),(138,fplainS),(139,fof1S),(140,clocalS),(141,fobjectS),(142,fcalledS)] [] 163 [3,4,6,7,8]) ⟨[],[],[(14,[[],[0],[0],[0],[],[0,1,2,3,4],[0,1,2,3,4,5],[0,1,2,3,4,5,6],[0,1,2,3,4,5,6],[5],[0,1,2,3,4,5,6,7,8,9],[0,1,2,3,4,5,6,7,8,9],[5],[5],[],[],[]]),(16,[[],[],[],[0,1,2],[0,1,2,3],[0,1,2,3],[],[0,1,2,3,4,5,6],[0,1,2,3,4,5,6],[],[],[],[],[]]),(25,[[],[],[0,1],[],[],[0,1,2,3,4],[0,1,2,3,4,5],[0,1,2,3,4,5],[0,1,2,3,4,5],[0,1,2,3,4],[],[]]),(27,[[],[0],[],[0,1,2],[0,1,2,3],[0,1,2,3],[3],[],[],[]])],[]⟩ ⟨aKk,aJJ,aQX,aQ2,aSx,aQ3,aRu,trivial⟩ Tryz.func95 fun z r _ h=>⟨0,.trans (by kernel_rfl) (aQZ z.1 z.2.1 z.2.2.1 r h)⟩
theorem aRq:FOk Tryz.prog 96 ffitsS:=fk (cx [(143,kisrefS),(144,ksubS)] [] 33 [4,6,7]) A0 ⟨aIr,aQf,trivial⟩ Tryz.func96 fun z r _ h=>⟨0,.trans (by kernel_rfl) ((aRp z.1 z.2.1 z.2.2.1 z.2.2.2.1).trans h)⟩
theorem aQ6:FOk Tryz.prog 92 fnextsS:=fk (cx [] [] 24 [2]) A0 trivial Tryz.func92 fun z r _ h=>⟨0,.trans (by kernel_rfl) ((aQ5 z.1 z.2.1).trans h)⟩
theorem aIS:FOk Tryz.prog 49 fstepS:=fk (cx [(92,fnextsS),(93,containsIS),(94,concatTS),(95,fofS),(96,ffitsS)] [] 130 [4,11,12,15]) ⟨[(16,(5,[.val 9 (bA) false,.val 104 ((.int .i64)) false]))],[],[(18,[[],[0],[0],[0,1,2],[0,1,2,3],[0,1,2,3,4],[0,1,2,3],[0,1,2],[0,1,2],[0,1,2,3,4,5,6,7,8],[],[]]),(21,[[],[0],[],[0,1,2],[0,1,2],[],[],[0,1,2,3,4,5,6],[7],[],[]])],[(21,[0,1,2,3,4,5,6,8,7,9,10])]⟩ ⟨aQ6,aJO,aEK,aQ1,aRq,trivial⟩ Tryz.func49 fun z r _ h=>(aQR z.1 z.2.1 z.2.2.1 z.2.2.2.1 r h).elim fun k hk=>⟨k,.trans (by kernel_rfl) hk⟩
theorem aRT:FOk Tryz.prog 112 cyc1S:=fk (cx [(93,containsIS)] [] 7 []) A0 ⟨aJO,trivial⟩ Tryz.func112 fun z r hl h=>⟨0,.trans (by kernel_rfl) ((aRS z.1 z.2.1 hl).trans h)⟩
theorem aQD:FOk Tryz.prog 85 indexCycS:=fk (cx [(112,cyc1S)] [] 19 []) ⟨[(2,(5,[.val 8 ((.int .i64)) false]))],[],[],[]⟩ ⟨aRT,trivial⟩ Tryz.func85 fun z r hl h=>(aQC z.1 z.2.1 hl).elim fun k hk=>⟨k,.trans (by kernel_rfl) (hk.trans h)⟩
theorem aSc:FOk Tryz.prog 41 containsCycS:=fk (cx [(114000085,indexCycS)] [] 9 []) A0 ⟨aQD,trivial⟩ Tryz.func41 fun z r hl h=>⟨0,.trans (by kernel_rfl) ((aSb z.1 z.2.1 hl).trans h)⟩
theorem aRQ:FOk Tryz.prog 59 cyclicS:=fk {cx [(114000041,containsCycS)] [] 28 [3] with thaws:=[1000003] } ⟨[(2,(6,[.val 9 ((.int .i64)) false]))],[],[],[]⟩ ⟨aSc,trivial⟩ Tryz.func59 fun z r _ h=>(aRP z.1 z.2.1 r h).elim fun k hk=>⟨k,.trans (by kernel_rfl) hk⟩
theorem aPp:FOk Tryz.prog 132 mul64S:=fk (cx [] [] 51 []) A0 trivial Tryz.func132 fun z r _ h=>⟨0,.trans (by kernel_rfl) (aPo z.1 z.2.1 r h)⟩
theorem aD2:FOk Tryz.prog 82 lofS:=fk (cx [] [] 11 [2]) A0 trivial Tryz.func82 fun z r _ h=>⟨0,.trans (by kernel_rfl) ((aP0 z.1).trans h)⟩
theorem aPV:FOk Tryz.prog 133 lsizeS:=fk (cx [] [] 10 []) A0 trivial Tryz.func133 fun z r _ h=>⟨0,.trans (by kernel_rfl) ((aPU z.1).trans h)⟩
theorem aPX:FOk Tryz.prog 83 lplusS:=fk (cx [(82,lofS)] [] 20 [2,3,4]) A0 ⟨aD2,trivial⟩ Tryz.func83 fun z r _ h=>⟨0,.trans (by kernel_rfl) (aPW z.1 z.2.1 r h)⟩
theorem aPT:FOk Tryz.prog 84 ltimesS:=fk (cx [(82,lofS),(132,mul64S),(133,lsizeS)] [] 39 [2,3,4]) ⟨[],[],[(3,[[],[],[],[0,1,2],[0,1,2],[],[],[],[],[8],[9],[]])],[(3,[0,1,2,3,4,5,6,7,8,10,9,11])]⟩ ⟨aD2,aPp,aPV,trivial⟩ Tryz.func84 fun z r _ h=>⟨0,.trans (by kernel_rfl) (aPS z.1 z.2.1 r h)⟩
theorem aP7:FOk Tryz.prog 40 lholdsS:=fk (cx [(82,lofS),(83,lplusS),(84,ltimesS)] [] 43 [2,6]) ⟨[(5,(4,[.val 19 ((.int .i64)) false,.box 6 130 [((.int .i64),false),(.bool,false)]]))],[],[(7,[[],[0],[0],[0,1,2],[0,1,2,3],[0,1,2],[0,1,2],[0],[0],[],[]])],[]⟩ ⟨aD2,aPX,aPT,trivial⟩ Tryz.func40 fun z r _ h=>(aP6 z.1 z.2.1 r h).elim fun k hk=>⟨k,.trans (by kernel_rfl) hk⟩
theorem aG6:FOk Tryz.prog 48 pshapeS:=fk (cx [] [] 28 [6]) A0 trivial Tryz.func48 fun z r _ h=>⟨0,.trans (by kernel_rfl) (aOy z.1 z.2.1 z.2.2.1 r h)⟩
theorem aDo:FOk Tryz.prog 17 pcostS:=fk (cx [(43,csizeS),(44,ctargetsS)] [] 50 [2,3]) ⟨[(8,(5,[.val 5 ((.int .i64)) false,.val 27 ((.int .i64)) false]))],[],[],[]⟩ ⟨aR2,aJG,trivial⟩ Tryz.func17 fun z r _ h=>(aOR z.1 z.2.1 r h).elim fun k hk=>⟨k,.trans (by kernel_rfl) hk⟩
theorem aOB:FOk Tryz.prog 47 prowS:=fk {cx [] [] 33 [2008000,8,11,2009000,9] with rows:=[11],thaws:=[32],lnks:=[(49,[0])] } A0 trivial Tryz.func47 fun z r _ h=>⟨0,.trans (by kernel_rfl) (aOA z.1 z.2.1 z.2.2.1 z.2.2.2.1 r h)⟩
theorem aG8:FOk Tryz.prog 19 prulesS:=fk (cx [(17,pcostS),(47,prowS),(48,pshapeS),(49,fstepS),(50,clipQS)] [81,94] 110 [3,10,11]) ⟨[(6,(14,[.val 8 (sE) true,.val 54 ((.int .i64)) false])),(15,(4,[.val 8 (sE) true,.val 90 ((.int .i64)) false]))],[(12,(2,[.val 8 (sE) true]))],[],[]⟩ ⟨aDo,aOB,aG6,aIS,aSD,trivial⟩ Tryz.func19 fun z r _ h=>(aOz z.1 z.2.1 z.2.2.1 r h).elim fun k hk=>⟨k,.trans (by kernel_rfl) hk⟩
theorem aOJ:FOk Tryz.prog 42 pnegS:=fk (cx [] [] 5 []) A0 trivial Tryz.func42 fun z r _ h=>⟨0,.trans (by kernel_rfl) h⟩
theorem aQv:FOk Tryz.prog 85 indexNegS:=fk (cx [(42,pnegS)] [] 19 []) ⟨[(2,(5,[.val 8 ((.int .i64)) false]))],[],[],[]⟩ ⟨aOJ,trivial⟩ Tryz.func85 fun z r hl h=>(aQu z.1 z.2.1 hl).elim fun k hk=>⟨k,.trans (by kernel_rfl) (hk.trans h)⟩
theorem aR7:FOk Tryz.prog 41 containsNegS:=fk (cx [(44000085,indexNegS)] [] 9 []) A0 ⟨aQv,trivial⟩ Tryz.func41 fun z r hl h=>⟨0,.trans (by kernel_rfl) ((aR6 z.1 z.2.1 hl).trans h)⟩
theorem aOT:FOk Tryz.prog 15 pcheckS:=fk (cx [(19,prulesS),(40,lholdsS),(44000041,containsNegS)] [] 49 [2,7,9]) ⟨[(2,(12,[.val 15 ((.int .i64)) false])),(5,(6,[.val 25 ((.int .i64)) false]))],[],[],[]⟩ ⟨aG8,aP7,aR7,trivial⟩ Tryz.func15 fun z r _ h=>(aOS z.1 z.2.1 r h).elim fun k hk=>⟨k,.trans (by kernel_rfl) hk⟩
theorem aG1:FOk Tryz.prog 18 r14costS:=fk (cx [(45,r5fieldsS),(46,r8targetsS)] [] 53 [2,3]) ⟨[(8,(4,[.val 5 ((.int .i64)) false,.val 7 ((.int .i64)) false]))],[],[(10,[[],[],[0,1],[0,1,2],[0,1],[0,1],[],[],[],[0,1,2,3,4,5,6,7,8],[]]),(11,[[],[],[0,1],[0,1,2],[0,1],[0,1],[],[],[],[]])],[]⟩ ⟨aA8,aNQ,trivial⟩ Tryz.func18 fun z r _ h=>(aOv z.1 z.2.1 r h).elim fun k hk=>⟨k,.trans (by kernel_rfl) hk⟩
theorem aOu:FOk Tryz.prog 16 r14potsS:=fk (cx [(18,r14costS),(21,r8stepS)] [] 93 [2,6]) ⟨[(2,(15,[.val 5 ((.int .i64)) false])),(8,(9,[.val 7 ((.int .i64)) false])),(13,(4,[.val 11 ((.int .i64)) false]))],[],[(5,[[],[],[],[],[0,1,2,3],[0,1,2,3],[]]),(11,[[],[0],[0,1],[0,1,2],[0,1,2,3],[0,1,2],[0,1,2],[0,1,2,3,4,5,6],[0,1,2],[0,1,2],[0,1,2],[],[],[],[13],[13,14],[14,15],[15],[]]),(15,[[],[],[0,1],[],[],[0,1,2,3,4],[0,1,2,3,4,5],[0,1,2,3,4,5],[0,1,2,3,4,5,6,7],[0,1,2,3,4,5],[0,1,2,3,4,5],[0,1,2,3,4],[0,1,2,3,4,5,6,7,8,9,10,11],[0,1,2,3,4,5,6,7,8,9,10,11],[0,1,2,3,4,5,6,7,8,9,10,11,12,13],[0,1,2,3,4,5,6,7,8,9,10,11,12,13,14],[0,1,2,3,4,5,6,7,8,9,10,11,12,13],[0,1,2,3,4,5,6,7,8,9,10,11,12,13],[0,1,2,3,4,5,6,7,8,9,10,11],[0,1,2,3,4,5,6,7,8,9,10,11],[0,1,2,3,4],[]])],[(11,[0,1,2,3,4,5,6,7,8,9,10,11,12,13,15,17,14,16,18])]⟩ ⟨aG1,aGF,trivial⟩ Tryz.func16 fun z r _ h=>(aOt z.1 z.2.1 r h).elim fun k hk=>⟨k,.trans (by kernel_rfl) hk⟩
theorem aSF:FOk Tryz.prog 105 clipMOS:=fk {cx [] [] 9 [0,8] with rows:=[1,8] } A0 trivial Tryz.func105 fun z r _ h=>⟨0,.trans (by kernel_rfl) ((aSE z.1).trans h)⟩
theorem aQI:FOk Tryz.prog 55 icopyHS:=fk {cx [(100,anTS),(101,anJS),(102,anIS),(103,anXS),(104,clipCS),(1000000000105,clipMOS)] [30,68] 83 [1,2002003,2,2003003,3,5,7,71,79] with rows:=[71],thaws:=[3000082],lnks:=[(28,[3])] } ⟨[(3,(4,[.val 25 ((.int .i64)) false,.box 3 28 [(lE,true),(bW,false),(jK,false),(.any,false),(bA,false),((.int .i64),false),((.int .i64),false)]])),(8,(5,[.val 47 ((.int .i64)) false,.lnk 2003003 42 (hJ)]))],[],[(1,[[],[],[],[0,1,2],[0,1,2],[],[0,1,2,3,4,5],[0,1,2,3,4,5],[],[0,1,2,3,4,5,6,7,8],[0,1,2,3,4,5,6,7,8],[0,1,2,3,4,5,6,7,8,9,10],[0,1,2,3,4,5,6,7,8,9,10],[],[0,1,2,3,4,5,6,7,8,9,10,11,12,13],[]]),(5,[[],[],[0,1],[0,1],[0,1,2,3],[0,1,2,3],[0,1,2,3],[0,1,2,3,4,5,6],[0,1,2,3,4,5,6],[0,1,2,3],[0,1],[0,1],[],[],[]]),(10,[[],[],[],[0,1,2],[0,1,2],[],[0,1,2,3,4,5],[0,1,2,3,4,5],[],[0,1,2,3,4,5,6,7,8],[0,1,2,3,4,5,6,7,8],[],[5,8,11],[],[],[],[],[],[],[]]),(13,[[],[],[],[0,1,2],[0,1,2],[],[5],[],[],[]])],[]⟩ ⟨aTh,aTj,aTk,aTg,aSN,aSF,trivial⟩ Tryz.func55 fun z r _ h=>(aQH z.1 r h).elim fun k hk=>⟨k,.trans (by kernel_rfl) hk⟩
theorem aSj:FOk Tryz.prog 56 cofLS:=fk {cx [(44,ctargetsS),(1000000000106,sortIS),(1000000000107,clipIOS),(1000000000108,compactIS)] [28] 39 [2,4,5,7,32,37,38] with rows:=[4,5,32,37] } ⟨[(5,(4,[.own 5 3 ((.int .i64)),.val 24 ((.int .i64)) false]))],[],[],[]⟩ ⟨aJG,aFS,aJ6,aSh,trivial⟩ Tryz.func56 fun z r _ h=>(aSi z.1 z.2.1 r h).elim fun k hk=>⟨k,.trans (by kernel_rfl) hk⟩
theorem aPK:FOk Tryz.prog 111 maxL15S:=fk (cx [] [] 25 []) ⟨[(5,(3,[.val 3 ((.int .i64)) false,.val 4 ((.int .i64)) false]))],[],[],[]⟩ trivial Tryz.func111 fun z r _ h=>(aPJ z.1 r h).elim fun k hk=>⟨k,.trans (by kernel_rfl) hk⟩
theorem aOL:FOk Tryz.prog 58 pleastS:=fk {cx [(17,pcostS),(48,pshapeS),(49,fstepS),(2000000000111,maxL15S)] [] 93 [3,6,28,12,13] with rows:=[6,28],thaws:=[4000089] } ⟨[(4,(19,[.val 32 ((.int .i64)) false,.row 28 3 ((.int .i64))])),(7,(13,[.val 10 (.bool) false,.val 36 ((.int .i64)) false,.row 28 3 ((.int .i64))])),(13,(6,[.val 10 (.bool) false,.val 60 ((.int .i64)) false,.row 28 3 ((.int .i64))]))],[],[(15,[[],[0],[],[0,1,2],[0,1,2,3],[0,1,2],[0,1,2],[],[]])],[]⟩ ⟨aDo,aG6,aIS,aPK,trivial⟩ Tryz.func58 fun z r _ h=>(aOK z.1 z.2.1 z.2.2.1 r h).elim fun k hk=>⟨k,.trans (by kernel_rfl) hk⟩
theorem aHg:FOk Tryz.prog 23 pfillS:=fk {cx [(55,icopyHS),(57,ringsS),(59,cyclicS),(2000000000056,cofLS),(2000000000058,pleastS)] [25] 106 [2,4,18,2002003,28,54] with thaws:=[28,105,1000063,2000004,2000059,2000102,3000026,3000051],lnks:=[(28,[3])] } ⟨[(4,(5,[.val 6 (lF) true,.val 22 ((.int .i64)) false,.lnk 2002003 42 (hJ)])),(10,(20,[.val 40 ((.int .i64)) false,.lnk 2002003 42 (hJ)])),(13,(7,[.val 46 ((.int .i64)) false,.lnk 2002003 42 (hJ)])),(21,(8,[.val 69 ((.int .i64)) false,.lnk 2002003 42 (hJ)]))],[(23,(3,[.lnk 2002003 42 (hJ)]))],[(25,[[],[],[0,1],[0,1,2],[0,1,2],[0,1,2],[],[],[]])],[]⟩ ⟨aQI,aNz,aRQ,aSj,aOL,trivial⟩ Tryz.func23 fun z r _ h=>(aOP z.1 z.2.1 r h).elim fun k hk=>⟨k,.trans (by kernel_rfl) hk⟩
theorem aMT:FOk Tryz.prog 37 sane15S:=fk (cx [(39,r5saneS)] [] 24 [1]) A0 ⟨aGN,trivial⟩ Tryz.func37 fun z r _ h=>⟨0,.trans (by kernel_rfl) ((aMS z.1).trans h)⟩
theorem aK8:FOk Tryz.prog 13 typed15S:=fk (cx [(37,sane15S),(38,r8allS)] [] 17 [1]) A0 ⟨aMT,aGH,trivial⟩ Tryz.func13 fun z r _ h=>⟨0,.trans (by kernel_rfl) h⟩
theorem aS7:FOk Tryz.prog 14 awake15S:=fk (cx [(15,pcheckS),(17,pcostS),(18,r14costS),(19,prulesS),(23,pfillS),(38,r8allS),(39,r5saneS)] [] 121 [1,6]) ⟨[],[],[(6,[[],[],[],[],[],[],[],[],[],[],[],[],[],[],[],[],[],[],[],[],[],[],[],[],[],[],[],[],[],[],[],[],[],[],[],[],[],[],[],[],[],[],[],[42],[42],[42],[42],[42],[42],[42],[],[],[],[],[],[54],[],[],[],[],[],[],[],[],[],[],[],[66],[66],[66],[66],[66],[66],[66],[],[],[],[]])],[]⟩ ⟨aOT,aDo,aG1,aG8,aHg,aGH,aGN,trivial⟩ Tryz.func14 fun z r _ h=>⟨0,.trans (by kernel_rfl) h⟩
theorem aOH (hl:∀z,xI Tryz.prog aBj z→∃k,aDj k z.1 z.2.1 z.2.2.1=some (true,())):FOk Tryz.prog 6 potFillsS:=fk {cx [(13,typed15S),(14,awake15S),(16,r14potsS),(23,pfillS),(24,r5sameS)] [] 200 [3,9,2011003,11,53,56,2015003,15,163,166,171,178] with rows:=[53,56,163,166,171,178],thaws:=[119,194,2000009],lnks:=[(28,[3])] } ⟨[(12,(5,[.val 12 ((.int .i64)) false,.lnk 2011003 42 (hJ)]))],[],[(14,[[],[],[0,1],[],[],[],[],[0,1,2,3,4,5,6],[0,1,2,3,4,5,6],[0,1,2,3,4,5,6,7,8],[0,1,2,3,4,5,6],[0,1,2,3,4,5,6],[0,1,2,3,4,5,6],[0,1,2,3,4,5,6],[],[],[],[],[16,17],[],[],[],[16,17,18,19,20,21],[16,17,18,19,20,21],[16,17,18,19,20,21,22,23],[16,17,18,19,20,21],[16,17,18,19,20,21],[16,17,18,19,20,21],[16,17,18,19,20,21],[16,17,18,19,20,21],[],[]]),(16,[[],[],[0,1],[0,1,2],[0,1,2],[0,1,2,3,4],[0,1,2,3,4,5],[0,1,2,3,4,5],[0,1,2,3,4,5,6,7],[0,1,2,3,4,5],[0,1,2,3,4,5],[0,1,2,3,4,5],[0,1,2,3,4,5,6,7,8,9,10,11],[0,1,2,3,4,5,6,7,8,9,10,11],[0,1,2,3,4,5,6,7,8,9,10,11,12,13],[0,1,2,3,4,5,6,7,8,9,10,11],[0,1,2,3,4,5,6,7,8,9,10,11],[0,1,2,3,4,5,6,7,8,9,10,11],[3,4,5],[3,4,5],[3,4,5],[],[],[]]),(25,[[],[],[0,1],[0,1,2],[0,1,2,3],[0,1,2,3],[0,1,2,3,4,5],[0,1,2,3],[0,1,2,3],[0,1,2,3],[0,1,2],[],[],[]])],[(16,[0,1,2,18,19,20,3,4,5,6,7,8,9,10,11,12,13,14,15,16,17,21,22,23])]⟩ ⟨aK8,aS7,aOu,aHg,aN7,trivial⟩ Tryz.func6 fun z r _ h=>by
 by_cases hw:xI Tryz.prog aBj z
 ·obtain⟨k,hk⟩:=hl z hw
  exact⟨k,.trans (by kernel_rfl) (hk.trans ((if_pos hw).symm.trans h))⟩
 ·exact absurd ((if_neg hw).symm.trans h) (by intro h;cases h)
end
end Go.Pli
