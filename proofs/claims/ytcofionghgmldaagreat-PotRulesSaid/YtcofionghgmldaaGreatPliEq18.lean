import Derived.Test.YtcofionghgmldaaGreatPliLaw
import Derived.Test.YtcofionghgmldaaGreatPMSort
import Derived.Test.YtcofionghgmldaaGreatPliReach
import Derived.Test.YtcofionghgmldaaGreatPliLib13
import Derived.Test.YtcofionghgmldaaGreatPMKit
import Derived.Test.YtcofionghgmldaaGreatPMSaid
import Derived.Test.YtcofionghgmldaaGreatProg
import Derived.KernelRfl
namespace Go.Pli
open Go Go.PM
open Go.Proofs
abbrev dN:Ty:= .pair (.int .i64) (.pair (.int .i64) .unit)
abbrev bN:Ty:= .sl 39 dN
abbrev iQ:Ty:= .sl 21 (.int .i32)
abbrev aX:Ty:= .sl 3 (.int .i64)
abbrev lE:Ty:= .pair (.int .i64) dN
abbrev kG:Ty:= .sl 45 lE
abbrev kI:Ty:= .sl 26 aX
abbrev tE:Ty:= .pair .bool (.pair bN .unit)
abbrev aBV:Ty:= .sl 52 tE
abbrev nT:Ty:= .sl 53 aBV
abbrev qV:Ty:= .pair aX (.pair (.int .i64) .unit)
abbrev mC:Ty:= .sl 49 qV
abbrev aEq:Ty:= .pair (.int .i64) (.pair bN (.pair aX .unit))
abbrev kH:Ty:= .sl 106 aEq
abbrev gQ:Ty:= .pair bN (.pair bN (.pair dN (.pair kG (.pair (.int .i64) (.pair (.int .i64) (.pair aX .unit))))))
abbrev aEr:Ty:= .sl 42 gQ
abbrev cZ:Ty:= .pair kH (.pair bN (.pair iQ (.pair aEr (.pair aX dN))))
abbrev aEs:Ty:= .sl 23 bN
abbrev aJ2:Ty:= .pair kH (.pair bN (.pair iQ (.pair (.osl 42 gQ) (.pair aX dN))))
abbrev aEt:Ty:= .sl 4 .bool
abbrev aJ3:Ty:= .sl 188 dN
def A0:Ann:=⟨[],[],[],[]⟩
def TY:List (TypeId×Ty):=[(3,(.int .i64)),(4,.bool),(22,kH),(23,bN),(24,iQ),(25,aEr),(26,aX),(28,cZ),(29,nT),(39,dN),(40,kG),(42,gQ),(45,lE),(46,mC),(49,qV),(52,tE),(53,aBV),(64,kI),(66,aEt),(106,aEq),(130,(.pair (.int .i64) (.pair .bool .unit))),(141,(.pair bN (.pair bN .unit))),(155,(.pair kI (.pair aX (.pair aX (.pair aEt (.pair aX (.pair (.int .i64) (.pair kI .unit)))))))),(172,(.int .u64)),(178,aEs),(188,dN),(189,aJ3)]
theorem aRI:aB0 Tryz.prog TY=true:=by kernel_rfl
def cx (fns:List (FuncId×FSpec)) (tips:List Nat) (n:Nat) (bxs:List Nat):Ctx:={ty:=TY,fns:=fns,tips:=tips,n:=n,bxs:=bxs,ptrs:=[] }
theorem fk (G:Ctx) {f:FuncId} {fn:Func} (A:Ann) {S:FSpec} (h3:FnsOk Tryz.prog G.fns) (hf:Tryz.prog.funcs[f]? =some fn) (h:∀z r,aBP S.ps z→S.run z=some r→∃k,aA9 G A k fn S.ps S.rs z=some r) (h1:G.ty=TY:=by rfl) (h2:G.ptrs.all (aCx Tryz.prog)=true:=by kernel_rfl) (hb:fn.body.isSome=true:=by kernel_rfl) (hn:(fn.name=="runtime.NumGoroutine")=false:=by kernel_rfl) (h4:G.sets.all (aCb Tryz.prog)=true:=by rfl):FOk Tryz.prog f S:=fok (aQh (by rw[h1];exact aRI) h2 h3 h4) hf hb hn h
noncomputable section
def rinS:FSpec:=⟨[.val (aX),.val ((.int .i64))],[.val (.bool)],fun z=>rin z.1 z.2.1⟩
def rargsS:FSpec:=⟨[.val ((.int .i64))],[.val ((.int .i64))],fun z=>some (pP z.1,())⟩
def rinstrS:FSpec:=⟨[.val (lE)],[.val (.bool)],fun z=>some (xJ z.1,())⟩
def clipCS:FSpec:=⟨[.val (kH)],[.val (kH)],fun z=>some (idL z.1,())⟩
def clipTS:FSpec:=⟨[.val (bN)],[.val (bN)],fun z=>some (idL z.1,())⟩
def clipIS:FSpec:=⟨[.val (aX)],[.val (aX)],fun z=>some (idL z.1,())⟩
def clipXS:FSpec:=⟨[.val (kG)],[.val (kG)],fun z=>some (idL z.1,())⟩
def clipJS:FSpec:=⟨[.val (iQ)],[.val (iQ)],fun z=>some (idL z.1,())⟩
def cloneTS:FSpec:=⟨[.val (bN)],[.val (bN)],fun z=>aBq z.1⟩
def cloneJS:FSpec:=⟨[.val (iQ)],[.val (iQ)],fun z=>aBr z.1⟩
def cloneIS:FSpec:=⟨[.val (aX)],[.val (aX)],fun z=>aBs z.1⟩
def cloneXS:FSpec:=⟨[.val (kG)],[.val (kG)],fun z=>aBp z.1⟩
def anTS:FSpec:=⟨[.val (bN)],[.val (bN)],fun z=>sT z.1⟩
def anJS:FSpec:=⟨[.val (iQ)],[.val (iQ)],fun z=>aBH z.1⟩
def anIS:FSpec:=⟨[.val (aX)],[.val (aX)],fun z=>wD z.1⟩
def anXS:FSpec:=⟨[.val (kG)],[.val (kG)],fun z=>aBF z.1⟩
def kisrefS:FSpec:=⟨[.val (dN)],[.val (.bool)],fun z=>some (hZ z.1,())⟩
def kupS:FSpec:=⟨[.val (kH),.val ((.int .i64))],[.val ((.int .i64))],fun z=>some (kup z.1 z.2.1,())⟩
def kbelowS:FSpec:=⟨[.val (kH),.val ((.int .i64)),.val ((.int .i64))],[.val (.bool)],fun z=>some (dD z.1 z.2.1 z.2.2.1,())⟩
def ksubS:FSpec:=⟨[.val (kH),.val (dN),.val (dN)],[.val (.bool)],fun z=>some (cG z.1 z.2.1 z.2.2.1,())⟩
def raboveS:FSpec:=⟨[.val (kH),.val ((.int .i64))],[.val (aX)],fun z=>iT z.1 z.2.1⟩
def risrefS:FSpec:=⟨[.val (dN)],[.val (.bool)],fun z=>some (rI z.1,())⟩
def rgoodS:FSpec:=⟨[.val (dN),.val ((.int .i64))],[.val (.bool)],fun z=>some (rK z.1 z.2.1,())⟩
def rsubS:FSpec:=⟨[.val (kH),.val (dN),.val (dN)],[.val (.bool)],fun z=>lH z.1 z.2.1 z.2.2.1⟩
def rtypesS:FSpec:=⟨[.val (bN),.val (bN)],[.val (.bool)],fun z=>some (tP z.1 z.2.1,())⟩
def rintsS:FSpec:=⟨[.val (aX),.val (aX)],[.val (.bool)],fun z=>some (tT z.1 z.2.1,())⟩
def r5inS:FSpec:=⟨[.val ((.int .i64)),.val ((.int .i64)),.val ((.int .i64))],[.val (.bool)],fun z=>some (hJ z.1 z.2.1 z.2.2.1,())⟩
def r5listS:FSpec:=⟨[.val (aX),.val ((.int .i64)),.val ((.int .i64))],[.val (.bool)],fun z=>some (oA z.1 z.2.1 z.2.2.1,())⟩
def r5typS:FSpec:=⟨[.val (dN)],[.val (.bool)],fun z=>some (pQ z.1,())⟩
def r5typesS:FSpec:=⟨[.val (bN),.val ((.int .i64))],[.val (.bool)],fun z=>some (lI z.1 z.2.1,())⟩
def r5fitsS:FSpec:=⟨[.val (cZ)],[.val (.bool)],fun z=>some (rN z.1,())⟩
def r5fieldsS:FSpec:=⟨[.val (cZ),.val ((.int .i64))],[.tip (bN)],fun z=>iH z.1 z.2.1⟩
def r5goodS:FSpec:=⟨[.val (cZ),.val (bN)],[.val (.bool)],fun z=>some (mO z.1 z.2.1,())⟩
def r5classS:FSpec:=⟨[.val (cZ),.val ((.int .i64))],[.val (.bool)],fun z=>uD z.1 z.2.1⟩
def r5namedS:FSpec:=⟨[.val (cZ),.val (gQ),.val (lE)],[.val (.bool)],fun z=>uB z.1 z.2.1 z.2.2.1⟩
def r5methodS:FSpec:=⟨[.val (cZ),.val (gQ)],[.val (.bool)],fun z=>uC z.1 z.2.1⟩
def r5saneS:FSpec:=⟨[.val (cZ)],[.val ((.int .i64))],fun z=>some (rM z.1,())⟩
def sortIS:FSpec:=⟨[.own 3 ((.int .i64))],[],fun z=>some (xA z.1)⟩
def compactIS:FSpec:=⟨[.take 3 ((.int .i64))],[.own 3 ((.int .i64))],fun z=>some (dP z.1,())⟩
def cbelowS:FSpec:=⟨[.val (cZ),.val ((.int .i64))],[.val (aX)],fun z=>vV z.1 z.2.1⟩
def cslotS:FSpec:=⟨[.val (cZ),.val ((.int .i64)),.val ((.int .i64))],[.val ((.int .i64)),.val (.bool)],fun z=>some (dL z.1 z.2.1 z.2.2.1)⟩
def ctargetsS:FSpec:=⟨[.val (cZ),.val (lE)],[.tip (aX)],fun z=>oT z.1 z.2.1⟩
def r5belowS:FSpec:=⟨[.val (cZ),.val ((.int .i64))],[.tip (aX)],fun z=>uE z.1 z.2.1⟩
def r5slotS:FSpec:=⟨[.val (cZ),.val ((.int .i64)),.val ((.int .i64))],[.val ((.int .i64)),.val (.bool)],fun z=>some (xS z.1 z.2.1 z.2.2.1)⟩
def r8targetsS:FSpec:=⟨[.val (cZ),.val (lE)],[.tip (aX)],fun z=>tV z.1 z.2.1⟩
def fenterS:FSpec:=⟨[.box 155 ((.pair kI (.pair (.osl 3 (.int .i64)) (.pair (.osl 3 (.int .i64)) (.pair (.osl 4 .bool) (.pair (.osl 3 (.int .i64)) (.pair (.int .i64) (.pair (.osl 26 aX) .unit)))))))),.val ((.int .i64))],[],fun z=>vP z.1 z.2.1⟩
def fleaveS:FSpec:=⟨[.box 155 ((.pair kI (.pair (.osl 3 (.int .i64)) (.pair (.osl 3 (.int .i64)) (.pair (.osl 4 .bool) (.pair (.osl 3 (.int .i64)) (.pair (.int .i64) (.pair (.osl 26 aX) .unit)))))))),.val ((.int .i64))],[],fun z=>vM z.1 z.2.1⟩
def ffromS:FSpec:=⟨[.box 155 ((.pair kI (.pair (.osl 3 (.int .i64)) (.pair (.osl 3 (.int .i64)) (.pair (.osl 4 .bool) (.pair (.osl 3 (.int .i64)) (.pair (.int .i64) (.pair (.osl 26 aX) .unit)))))))),.val ((.int .i64))],[],fun z=>vO z.1 z.2.1⟩
def clipIOS:FSpec:=⟨[.take 3 ((.int .i64))],[.own 3 ((.int .i64))],fun z=>some (idL z.1,())⟩
def clipIIOS:FSpec:=⟨[.take 26 (aX)],[.own 26 (aX)],fun z=>some (idL z.1,())⟩
def ringsS:FSpec:=⟨[.val (kI)],[.val (kI)],fun z=>jR z.1⟩
def r5localS:FSpec:=⟨[.val (gQ),.val ((.int .i64))],[.val (dN)],fun z=>xU z.1 z.2.1⟩
def rjoinS:FSpec:=⟨[.val (kH),.val (dN),.val (dN)],[.val (dN)],fun z=>tS z.1 z.2.1 z.2.2.1⟩
def r8givesS:FSpec:=⟨[.val (gQ)],[.val (bN)],fun z=>tY z.1⟩
def r8ruleS:FSpec:=⟨[.val (cZ),.val ((.int .i64)),.val (lE)],[.val (bN),.val (bN)],fun z=>xR z.1 z.2.1 z.2.2.1⟩
def r8stepS:FSpec:=⟨[.val (cZ),.val ((.int .i64)),.val ((.int .i64)),.val (bN)],[.val (bN),.val (aX),.val ((.int .i64))],fun z=>nZ z.1 z.2.1 z.2.2.1 z.2.2.2.1⟩
def r8shapesS:FSpec:=⟨[.val (cZ),.val ((.int .i64))],[.val (aBV),.val (.bool)],fun z=>tX z.1 z.2.1⟩
def r8allS:FSpec:=⟨[.val (cZ)],[.val (nT),.val ((.int .i64))],fun z=>jS z.1⟩
def growTS:FSpec:=⟨[.nilp true,.val ((.int .i64))],[.own 39 (dN)],fun z=>vK z.1 z.2.1⟩
def concatTS:FSpec:=⟨[.val (aEs)],[.val (bN)],fun z=>nI z.1⟩
def indexIS:FSpec:=⟨[.val (aX),.val ((.int .i64))],[.val ((.int .i64))],fun z=>some (aA1 z.1 z.2.1,())⟩
def containsIS:FSpec:=⟨[.val (aX),.val ((.int .i64))],[.val (.bool)],fun z=>some (vT z.1 z.2.1,())⟩
def clipQS:FSpec:=⟨[.val (mC)],[.val (mC)],fun z=>some (idL z.1,())⟩
def cupS:FSpec:=⟨[.val (cZ),.val ((.int .i64))],[.val ((.int .i64))],fun z=>cup z.1 z.2.1⟩
def cfieldsS:FSpec:=⟨[.val (cZ),.val ((.int .i64))],[.val (bN)],fun z=>oV z.1 z.2.1⟩
def csizeS:FSpec:=⟨[.val (cZ),.val ((.int .i64))],[.val ((.int .i64))],fun z=>vS z.1 z.2.1⟩
def clocalS:FSpec:=⟨[.val (gQ),.val ((.int .i64))],[.val (dN)],fun z=>sQ z.1 z.2.1⟩
def numIsS:FSpec:=⟨[.val ((.int .i64))],[.val (.bool)],fun z=>some (lK z.1,())⟩
def fnumberS:FSpec:=⟨[],[.val (dN)],fun _=>some (iJ,())⟩
def farrayS:FSpec:=⟨[],[.val (dN)],fun _=>some (vQ,())⟩
def fobjectS:FSpec:=⟨[.val ((.int .i64))],[.val (dN)],fun z=>some (lX z.1,())⟩
def fplain1S:FSpec:=⟨[.val (bN)],[.val (bN)],fun z=>some (gE z.1,())⟩
def fof1S:FSpec:=⟨[.val (dN)],[.val (bN)],fun z=>some (fI z.1,())⟩
def fcalledS:FSpec:=⟨[.val (gQ),.val (bN)],[.val ((.pair bN (.pair bN .unit)))],fun z=>sJ z.1 z.2.1⟩
def fplainS:FSpec:=⟨[.val ((.int .i64))],[.val ((.pair bN (.pair bN .unit))),.val (.bool)],fun z=>some (eI z.1)⟩
def fofS:FSpec:=⟨[.val (cZ),.val (lE),.val ((.int .i64))],[.val ((.pair bN (.pair bN .unit)))],fun z=>fof z.1 z.2.1 z.2.2.1⟩
def ffitsS:FSpec:=⟨[.val (cZ),.val ((.int .i64)),.val (dN),.val (dN)],[.val (.bool)],fun z=>some (dV z.1 z.2.1 z.2.2.1 z.2.2.2.1,())⟩
def fnextsS:FSpec:=⟨[.val (lE),.val ((.int .i64))],[.val (aX)],fun z=>some (dS z.1 z.2.1,())⟩
def fstepS:FSpec:=⟨[.val (cZ),.val ((.int .i64)),.val ((.int .i64)),.val (bN)],[.val (bN),.val (aX),.val ((.int .i64))],fun z=>oP z.1 z.2.1 z.2.2.1 z.2.2.2.1⟩
def cyc1S:FSpec:=⟨[.val ((.int .i64)),.cap (aX)],[.val (.bool)],fun z=>some (sP z.1 z.2.1,())⟩
def indexCycS:FSpec:=⟨[.val (aX),.val ((.clo 112 (.pair aX .unit)))],[.val ((.int .i64))],fun z=>some (aA3 z.1 z.2.1,())⟩
def containsCycS:FSpec:=⟨[.val (aX),.val ((.clo 112 (.pair aX .unit)))],[.val (.bool)],fun z=>some (zB z.1 z.2.1,())⟩
def cyclicS:FSpec:=⟨[.val (kI),.val (aX)],[.val (.bool)],fun z=>sO z.1 z.2.1⟩
def mul64S:FSpec:=⟨[.val ((.int .u64)),.val ((.int .u64))],[.val ((.int .u64)),.val ((.int .u64))],fun z=>uP z.1 z.2.1⟩
def lofS:FSpec:=⟨[.val ((.int .i64))],[.val ((.pair (.int .i64) (.pair .bool .unit)))],fun z=>some (lof z.1,())⟩
def lsizeS:FSpec:=⟨[.val ((.int .i64))],[.val ((.int .u64))],fun z=>some (fD z.1,())⟩
def lplusS:FSpec:=⟨[.val ((.pair (.int .i64) (.pair .bool .unit))),.val ((.pair (.int .i64) (.pair .bool .unit)))],[.val ((.pair (.int .i64) (.pair .bool .unit)))],fun z=>yL z.1 z.2.1⟩
def ltimesS:FSpec:=⟨[.val ((.pair (.int .i64) (.pair .bool .unit))),.val ((.pair (.int .i64) (.pair .bool .unit)))],[.val ((.pair (.int .i64) (.pair .bool .unit)))],fun z=>yK z.1 z.2.1⟩
def lholdsS:FSpec:=⟨[.val (qV),.val (aX)],[.val (.bool),.val ((.int .i64))],fun z=>vC z.1 z.2.1⟩
def pshapeS:FSpec:=⟨[.val (nT),.val ((.int .i64)),.val ((.int .i64))],[.val (tE)],fun z=>oB z.1 z.2.1 z.2.2.1⟩
def pcostS:FSpec:=⟨[.val (cZ),.val (lE)],[.val ((.int .i64))],fun z=>jT z.1 z.2.1⟩
def prowS:FSpec:=⟨[.val ((.int .i64)),.val ((.int .i64)),.val ((.int .i64)),.val ((.int .i64))],[.val (qV)],fun z=>pS z.1 z.2.1 z.2.2.1 z.2.2.2.1⟩
def prulesS:FSpec:=⟨[.val (cZ),.val (nT),.val ((.int .i64))],[.val (mC)],fun z=>mP z.1 z.2.1 z.2.2.1⟩
def pnegS:FSpec:=⟨[.val ((.int .i64))],[.val (.bool)],fun z=>some (aGf z.1,())⟩
def indexNegS:FSpec:=⟨[.val (aX),.val ((.clo 42 .unit))],[.val ((.int .i64))],fun z=>some (aA0 z.1 z.2.1,())⟩
def containsNegS:FSpec:=⟨[.val (aX),.val ((.clo 42 .unit))],[.val (.bool)],fun z=>some (zA z.1 z.2.1,())⟩
def pcheckS:FSpec:=⟨[.val (cZ),.val (nT)],[.val ((.int .i64)),.val ((.int .i64))],fun z=>oC z.1 z.2.1⟩
def r14costS:FSpec:=⟨[.val (cZ),.val (lE)],[.val ((.int .i64))],fun z=>pR z.1 z.2.1⟩
def clipMOS:FSpec:=⟨[.take 42 (gQ)],[.own 42 (gQ)],fun z=>some (idL z.1,())⟩
def icopyHS:FSpec:=⟨[.val (cZ)],[.str (aJ2)],fun z=>vI z.1⟩
def cofLS:FSpec:=⟨[.val (cZ),.val ((.int .i64))],[.own 3 ((.int .i64))],fun z=>cof z.1 z.2.1⟩
def maxL15S:FSpec:=⟨[.val (aX)],[.val ((.int .i64))],fun z=>uV z.1⟩
def pleastS:FSpec:=⟨[.val (cZ),.val (nT),.val ((.int .i64))],[.own 3 ((.int .i64)),.val (.bool)],fun z=>rQ z.1 z.2.1 z.2.2.1⟩
def pfillS:FSpec:=⟨[.val (cZ),.val (nT)],[.val (cZ),.val (.bool)],fun z=>rR z.1 z.2.1⟩
def r14sameS:FSpec:=⟨[.val (qV),.val (qV)],[.val (.bool)],fun z=>uF z.1 z.2.1⟩
def sane15S:FSpec:=⟨[.val (cZ)],[.val (.bool)],fun z=>some (tM z.1,())⟩
def typed15S:FSpec:=⟨[.val (cZ)],[.val (nT),.val (.bool)],fun z=>wQ z.1⟩
def rule15S:FSpec:=⟨[.val ((.int .i64)),.val ((.int .i64)),.val ((.int .i64)),.val ((.int .i64))],[.val (qV)],fun z=>pO z.1 z.2.1 z.2.2.1 z.2.2.2.1⟩
def awake15S:FSpec:=⟨[],[.val (.bool)],fun _=>awake15N⟩
def aAA:List Ty:=[cZ,(.int .i64)]
noncomputable def potRulesS:FSpec:=⟨[.val (cZ),.val ((.int .i64))],[.val (.bool)],fun z=>@ite _ (wE Tryz.prog aAA z) (Classical.propDecidable _) (some (true,())) none⟩
theorem aEZ:FOk Tryz.prog 106 sortIS:=sort_fok 3 ⟨_,Tryz.func106,by kernel_rfl,by kernel_rfl⟩ Tryz.slices_Sort_int Tryz.slices_Sort_int_none
theorem aQz:FOk Tryz.prog 108 compactIS:=compact_fok 3 ⟨_,Tryz.func108,by kernel_rfl,by kernel_rfl⟩ Tryz.slices_Compact_int Tryz.slices_Compact_int_empty
theorem aAg:FOk Tryz.prog 99 rinS:=fk (cx [] [] 18 []) ⟨[(2,(4,[.val 5 ((.int .i64)) false]))],[],[],[]⟩ trivial Tryz.func99 fun z r _ h=>(aMf z.1 z.2.1 r h).elim fun k hk=>⟨k,.trans (by kernel_rfl) hk⟩
theorem aMp:FOk Tryz.prog 76 rargsS:=fk (cx [(99,rinS)] [] 24 []) A0 ⟨aAg,trivial⟩ Tryz.func76 fun z r _ h=>⟨0,.trans (by kernel_rfl) ((aMo z.1).trans h)⟩
theorem aMb:FOk Tryz.prog 70 rinstrS:=fk (cx [(76,rargsS)] [] 45 [1]) ⟨[],[(2,(2,[]))],[],[]⟩ ⟨aMp,trivial⟩ Tryz.func70 fun z r _ h=>⟨0,.trans (by kernel_rfl) ((aMa z.1).trans h)⟩
theorem aQ5:FOk Tryz.prog 104 clipCS:=fk (cx [] [] 9 []) A0 trivial Tryz.func104 fun z r _ h=>⟨0,.trans (by kernel_rfl) ((aQ4 z.1).trans h)⟩
theorem aQT:FOk Tryz.prog 145 clipTS:=fk (cx [] [] 9 []) A0 trivial Tryz.func145 fun z r _ h=>⟨0,.trans (by kernel_rfl) ((aQS z.1).trans h)⟩
theorem aI4:FOk Tryz.prog 107 clipIS:=fk (cx [] [] 9 []) A0 trivial Tryz.func107 fun z r _ h=>⟨0,.trans (by kernel_rfl) ((aQ0 z.1).trans h)⟩
theorem aQR:FOk Tryz.prog 150 clipXS:=fk (cx [] [] 9 []) A0 trivial Tryz.func150 fun z r _ h=>⟨0,.trans (by kernel_rfl) ((aQQ z.1).trans h)⟩
theorem aQZ:FOk Tryz.prog 147 clipJS:=fk (cx [] [] 9 []) A0 trivial Tryz.func147 fun z r _ h=>⟨0,.trans (by kernel_rfl) ((aQY z.1).trans h)⟩
def cloneTS0:FSpec:=⟨[.full (bN) false],[.val (bN)],fun _=>some (([]:List Tp),())⟩
def cloneTS1:FSpec:=⟨[.full (bN) true],[.val (bN)],fun z=>aBq z.1⟩
theorem aQG:FOk Tryz.prog 146 cloneTS0:=fk (cx [] [] 8 []) A0 trivial Tryz.func146 fun z r _ h=>⟨0,.trans (by kernel_rfl) h⟩
theorem aQF:FOk Tryz.prog 146 cloneTS1:=fk (cx [] [] 8 []) A0 trivial Tryz.func146 fun z r _ h=>⟨0,.trans (by kernel_rfl) h⟩
theorem aQH:FOk Tryz.prog 146 cloneTS:=FOk.split _ aQF aQG (fun _ h=>h)
def cloneJS0:FSpec:=⟨[.full (iQ) false],[.val (iQ)],fun _=>some (([]:List Int),())⟩
def cloneJS1:FSpec:=⟨[.full (iQ) true],[.val (iQ)],fun z=>aBr z.1⟩
theorem aQJ:FOk Tryz.prog 148 cloneJS0:=fk (cx [] [] 8 []) A0 trivial Tryz.func148 fun z r _ h=>⟨0,.trans (by kernel_rfl) h⟩
theorem aQI:FOk Tryz.prog 148 cloneJS1:=fk (cx [] [] 8 []) A0 trivial Tryz.func148 fun z r _ h=>⟨0,.trans (by kernel_rfl) h⟩
theorem aQK:FOk Tryz.prog 148 cloneJS:=FOk.split _ aQI aQJ (fun _ h=>h)
def cloneIS0:FSpec:=⟨[.full (aX) false],[.val (aX)],fun _=>some (([]:List Int),())⟩
def cloneIS1:FSpec:=⟨[.full (aX) true],[.val (aX)],fun z=>aBs z.1⟩
theorem aQM:FOk Tryz.prog 149 cloneIS0:=fk (cx [] [] 8 []) A0 trivial Tryz.func149 fun z r _ h=>⟨0,.trans (by kernel_rfl) h⟩
theorem aQL:FOk Tryz.prog 149 cloneIS1:=fk (cx [] [] 8 []) A0 trivial Tryz.func149 fun z r _ h=>⟨0,.trans (by kernel_rfl) h⟩
theorem aQN:FOk Tryz.prog 149 cloneIS:=FOk.split _ aQL aQM (fun _ h=>h)
def cloneXS0:FSpec:=⟨[.full (kG) false],[.val (kG)],fun _=>some (([]:List Ins),())⟩
def cloneXS1:FSpec:=⟨[.full (kG) true],[.val (kG)],fun z=>aBp z.1⟩
theorem aQD:FOk Tryz.prog 151 cloneXS0:=fk (cx [] [] 8 []) A0 trivial Tryz.func151 fun z r _ h=>⟨0,.trans (by kernel_rfl) h⟩
theorem aQC:FOk Tryz.prog 151 cloneXS1:=fk (cx [] [] 8 []) A0 trivial Tryz.func151 fun z r _ h=>⟨0,.trans (by kernel_rfl) h⟩
theorem aQE:FOk Tryz.prog 151 cloneXS:=FOk.split _ aQC aQD (fun _ h=>h)
theorem aRz:FOk Tryz.prog 100 anTS:=fk (cx [(145,clipTS),(146,cloneTS)] [] 6 []) A0 ⟨aQT,aQH,trivial⟩ Tryz.func100 fun z r _ h=>⟨0,.trans (by kernel_rfl) h⟩
theorem aRB:FOk Tryz.prog 101 anJS:=fk (cx [(147,clipJS),(148,cloneJS)] [] 6 []) A0 ⟨aQZ,aQK,trivial⟩ Tryz.func101 fun z r _ h=>⟨0,.trans (by kernel_rfl) h⟩
theorem aRC:FOk Tryz.prog 102 anIS:=fk (cx [(107,clipIS),(149,cloneIS)] [] 6 []) A0 ⟨aI4,aQN,trivial⟩ Tryz.func102 fun z r _ h=>⟨0,.trans (by kernel_rfl) h⟩
theorem aRy:FOk Tryz.prog 103 anXS:=fk (cx [(150,clipXS),(151,cloneXS)] [] 6 []) A0 ⟨aQR,aQE,trivial⟩ Tryz.func103 fun z r _ h=>⟨0,.trans (by kernel_rfl) h⟩
theorem aHt:FOk Tryz.prog 143 kisrefS:=fk (cx [] [] 16 [1]) A0 trivial Tryz.func143 fun z r _ h=>⟨0,.trans (by kernel_rfl) ((aOC z.1).trans h)⟩
theorem aOz:FOk Tryz.prog 180 kupS:=fk (cx [] [] 27 []) A0 trivial Tryz.func180 fun z r _ h=>⟨0,.trans (by kernel_rfl) ((aOy z.1 z.2.1).trans h)⟩
theorem aHw:FOk Tryz.prog 135 kbelowS:=fk (cx [(180,kupS)] [] 29 []) ⟨[(3,(4,[.val 1 ((.int .i64)) false]))],[],[],[]⟩ ⟨aOz,trivial⟩ Tryz.func135 fun z r _ h=>(aOE z.1 z.2.1 z.2.2.1).elim fun k hk=>⟨k,.trans (by kernel_rfl) (hk.trans h)⟩
theorem aOB:FOk Tryz.prog 144 ksubS:=fk (cx [(135,kbelowS),(143,kisrefS)] [] 41 [4,5]) A0 ⟨aHw,aHt,trivial⟩ Tryz.func144 fun z r _ h=>⟨0,.trans (by kernel_rfl) ((aOA z.1 z.2.1 z.2.2.1).trans h)⟩
theorem aAk:FOk Tryz.prog 89 raboveS:=fk (cx [] [16] 30 []) ⟨[(2,(6,[.val 1 ((.int .i64)) false,.val 5 (aX) true]))],[],[],[]⟩ trivial Tryz.func89 fun z r _ h=>(aMq z.1 z.2.1 r h).elim fun k hk=>⟨k,.trans (by kernel_rfl) hk⟩
theorem aFq:FOk Tryz.prog 52 risrefS:=fk (cx [] [] 16 [1]) A0 trivial Tryz.func52 fun z r _ h=>⟨0,.trans (by kernel_rfl) ((aL2 z.1).trans h)⟩
theorem aFy:FOk Tryz.prog 130 rgoodS:=fk (cx [] [] 34 [2]) A0 trivial Tryz.func130 fun z r _ h=>⟨0,.trans (by kernel_rfl) ((aMh z.1 z.2.1).trans h)⟩
theorem aCj:FOk Tryz.prog 53 rsubS:=fk (cx [(52,risrefS),(89,raboveS),(99,rinS)] [] 40 [4,5]) ⟨[],[],[(4,[[],[],[],[],[],[4],[4],[],[4,5,6,7],[4,5,6,7],[],[],[]])],[]⟩ ⟨aFq,aAk,aAg,trivial⟩ Tryz.func53 fun z r _ h=>⟨0,.trans (by kernel_rfl) (aLT z.1 z.2.1 z.2.2.1 r h)⟩
theorem aFd:FOk Tryz.prog 60 rtypesS:=fk (cx [] [] 26 []) ⟨[(4,(4,[.val 5 ((.int .i64)) false]))],[],[(6,[[],[0],[],[],[0,1,2,3],[0,1,2,3,4],[0,1,2,3],[0,1,2,3],[]])],[]⟩ trivial Tryz.func60 fun z r hl h=>(aLP z.1 z.2.1 hl).elim fun k hk=>⟨k,.trans (by kernel_rfl) (hk.trans h)⟩
theorem aL6:FOk Tryz.prog 54 rintsS:=fk (cx [] [] 26 []) ⟨[(4,(4,[.val 5 ((.int .i64)) false]))],[],[(6,[[],[0],[],[],[0,1,2,3],[0,1,2,3,4],[0,1,2,3],[0,1,2,3],[]])],[]⟩ trivial Tryz.func54 fun z r hl h=>(aL5 z.1 z.2.1 hl).elim fun k hk=>⟨k,.trans (by kernel_rfl) (hk.trans h)⟩
theorem aCq:FOk Tryz.prog 68 r5inS:=fk (cx [] [] 15 []) A0 trivial Tryz.func68 fun z r _ h=>⟨0,.trans (by kernel_rfl) ((aMT z.1 z.2.1 z.2.2.1).trans h)⟩
theorem aMR:FOk Tryz.prog 67 r5listS:=fk (cx [(68,r5inS)] [] 25 []) ⟨[(4,(4,[.val 7 ((.int .i64)) false]))],[],[],[]⟩ ⟨aCq,trivial⟩ Tryz.func67 fun z r hl h=>(aMQ z.1 z.2.1 z.2.2.1 hl).elim fun k hk=>⟨k,.trans (by kernel_rfl) (hk.trans h)⟩
theorem aFN:FOk Tryz.prog 69 r5typS:=fk (cx [(68,r5inS)] [] 21 [1]) A0 ⟨aCq,trivial⟩ Tryz.func69 fun z r _ h=>⟨0,.trans (by kernel_rfl) ((aMF z.1).trans h)⟩
theorem aMD:FOk Tryz.prog 66 r5typesS:=fk (cx [(69,r5typS)] [] 22 []) ⟨[(4,(4,[.val 5 ((.int .i64)) false]))],[],[],[]⟩ ⟨aFN,trivial⟩ Tryz.func66 fun z r hl h=>(aMC z.1 z.2.1 hl).elim fun k hk=>⟨k,.trans (by kernel_rfl) (hk.trans h)⟩
theorem aMX:FOk Tryz.prog 34 r5fitsS:=fk (cx [(66,r5typesS),(67,r5listS),(68,r5inS),(69,r5typS),(70,rinstrS)] [] 142 [1,4,6]) ⟨[(4,(5,[.val 3 ((.int .i64)) false])),(10,(10,[.val 5 ((.int .i64)) false])),(16,(4,[.val 7 ((.int .i64)) false]))],[],[],[]⟩ ⟨aMD,aMR,aCq,aFN,aMb,trivial⟩ Tryz.func34 fun z r hl h=>(aMW z.1 hl).elim fun k hk=>⟨k,.trans (by kernel_rfl) (hk.trans h)⟩
theorem aAu:FOk Tryz.prog 45 r5fieldsS:=fk (cx [(89,raboveS)] [20,31] 32 [2]) ⟨[(4,(3,[.val 6 (bN) true,.val 7 ((.int .i64)) false]))],[],[(6,[[],[0],[0],[0,1,2],[0,1,2,3],[0,1,2],[0,1,2],[0],[0],[0],[],[]])],[]⟩ ⟨aAk,trivial⟩ Tryz.func45 fun z r _ h=>(aMZ z.1 z.2.1 r h).elim fun k hk=>⟨k,.trans (by kernel_rfl) hk⟩
theorem aCr:FOk Tryz.prog 79 r5goodS:=fk (cx [(130,rgoodS)] [] 21 [2]) ⟨[(2,(4,[.val 5 ((.int .i64)) false]))],[],[(4,[[],[0],[],[],[0,1,2,3],[0,1,2,3],[0,1,2,3],[],[]])],[]⟩ ⟨aFy,trivial⟩ Tryz.func79 fun z r hl h=>(aMU z.1 z.2.1 hl).elim fun k hk=>⟨k,.trans (by kernel_rfl) (hk.trans h)⟩
theorem aM1:FOk Tryz.prog 80 r5classS:=fk (cx [(45,r5fieldsS),(53,rsubS),(60,rtypesS),(79,r5goodS)] [] 118 [2,5,8,9]) ⟨[(10,(11,[.val 7 ((.int .i64)) false]))],[(5,(2,[.val 6 (aX) false])),(12,(9,[]))],[(12,[[],[],[0,1],[],[],[0,1,2,3,4],[0,1,2,3,4],[0,1,2,3,4],[]]),(14,[[],[],[0,1],[0,1],[0,1,2,3],[0,1],[0,1],[],[],[0,1,2,3,4,5,6,7,8],[]]),(15,[[],[],[],[],[],[],[],[5,6],[5,6],[5,6,7,8],[5,6,7,8],[5,6,7,8],[5,6,7,8],[],[],[]]),(18,[[],[],[0,1],[0,1,2],[0,1],[0,1],[],[],[0,1,2,3,4,5,6,7],[]]),(19,[[],[],[],[0,1,2],[0,1,2],[0,1,2],[],[],[],[],[],[9,10],[9,10],[],[]])],[]⟩ ⟨aAu,aCj,aFd,aCr,trivial⟩ Tryz.func80 fun z r _ h=>(aM0 z.1 z.2.1 r h).elim fun k hk=>⟨k,.trans (by kernel_rfl) hk⟩
theorem aML:FOk Tryz.prog 131 r5namedS:=fk (cx [(45,r5fieldsS)] [] 105 [3,4,5]) ⟨[],[(4,(2,[.val 17 (.bool) false])),(7,(2,[.val 30 (.bool) false])),(10,(2,[.val 39 (.bool) false])),(13,(2,[.val 48 (.bool) false])),(16,(2,[.val 67 (.bool) false]))],[(15,[[],[],[0,1],[0,1],[0,1],[],[],[],[],[7,8],[7,8,9],[7,8,9],[7,8],[7,8],[],[],[]]),(22,[[],[],[0,1],[0,1],[0,1],[],[],[],[],[7,8],[7,8],[7,8,9,10],[7,8,9,10],[7,8],[7,8],[7,8],[7,8],[],[],[]])],[]⟩ ⟨aAu,trivial⟩ Tryz.func131 fun z r _ h=>⟨0,.trans (by kernel_rfl) (aMK z.1 z.2.1 z.2.2.1 r h)⟩
theorem aMN:FOk Tryz.prog 81 r5methodS:=fk (cx [(79,r5goodS),(130,rgoodS),(131,r5namedS)] [] 74 [2,3]) ⟨[(4,(4,[.val 5 ((.int .i64)) false]))],[(1,(2,[]))],[(6,[[],[0],[0,1],[0,1],[0,1,2,3],[0,1],[0,1],[],[]])],[]⟩ ⟨aCr,aFy,aML,trivial⟩ Tryz.func81 fun z r _ h=>(aMM z.1 z.2.1 r h).elim fun k hk=>⟨k,.trans (by kernel_rfl) hk⟩
theorem aFQ:FOk Tryz.prog 39 r5saneS:=fk (cx [(34,r5fitsS),(79,r5goodS),(80,r5classS),(81,r5methodS)] [] 111 [1]) ⟨[(5,(3,[.val 3 (.bool) false,.val 4 ((.int .i64)) false])),(9,(3,[.val 3 (.bool) false,.val 5 ((.int .i64)) false])),(13,(10,[.val 3 (.bool) false,.val 6 ((.int .i64)) false])),(20,(3,[.val 3 (.bool) false,.val 8 ((.int .i64)) false]))],[(4,(4,[.val 3 (.bool) false])),(8,(4,[.val 3 (.bool) false])),(18,(1,[.val 3 (.bool) false]))],[(11,[[],[0],[0],[0,1,2],[0],[0],[],[]])],[]⟩ ⟨aMX,aCr,aM1,aMN,trivial⟩ Tryz.func39 fun z r hl h=>(aMI z.1 hl).elim fun k hk=>⟨k,.trans (by kernel_rfl) (hk.trans h)⟩
theorem aRb:FOk Tryz.prog 87 cbelowS:=fk (cx [(107,clipIS),(135,kbelowS)] [18] 25 [2]) ⟨[(3,(5,[.val 5 (aX) true,.val 10 ((.int .i64)) false]))],[],[],[]⟩ ⟨aI4,aHw,trivial⟩ Tryz.func87 fun z r _ h=>(aRa z.1 z.2.1 r h).elim fun k hk=>⟨k,.trans (by kernel_rfl) hk⟩
theorem aIF:FOk Tryz.prog 88 cslotS:=fk (cx [] [] 41 [3]) A0 trivial Tryz.func88 fun z r _ h=>⟨0,.trans (by kernel_rfl) ((aIE z.1 z.2.1 z.2.2.1).trans h)⟩
theorem aIC:FOk Tryz.prog 44 ctargetsS:=fk (cx [(87,cbelowS),(88,cslotS)] [14,39,44] 45 [2,3]) ⟨[(7,(6,[.val 5 (aX) true,.val 26 ((.int .i64)) false]))],[],[],[]⟩ ⟨aRb,aIF,trivial⟩ Tryz.func44 fun z r _ h=>(aQi z.1 z.2.1 r h).elim fun k hk=>⟨k,.trans (by kernel_rfl) hk⟩
theorem aM3:FOk Tryz.prog 90 r5belowS:=fk (cx [(89,raboveS),(99,rinS)] [21,25] 26 [2]) ⟨[(3,(4,[.val 5 (aX) true,.val 6 ((.int .i64)) false]))],[],[],[]⟩ ⟨aAk,aAg,trivial⟩ Tryz.func90 fun z r _ h=>(aM2 z.1 z.2.1 r h).elim fun k hk=>⟨k,.trans (by kernel_rfl) hk⟩
theorem aFP:FOk Tryz.prog 91 r5slotS:=fk (cx [] [] 41 [3]) A0 trivial Tryz.func91 fun z r _ h=>⟨0,.trans (by kernel_rfl) ((aMG z.1 z.2.1 z.2.2.1).trans h)⟩
theorem aMu:FOk Tryz.prog 46 r8targetsS:=fk (cx [(90,r5belowS),(91,r5slotS)] [14,44,48] 49 [2,3]) ⟨[(7,(5,[.val 5 (aX) true,.val 7 ((.int .i64)) false]))],[(2,(2,[.val 5 (aX) true]))],[(9,[[],[0],[0,1],[0],[0],[0,1,2,3,4],[0,1,2,3,4],[],[],[],[9],[10],[]])],[(9,[0,1,2,3,4,5,6,7,8,9,11,10,12])]⟩ ⟨aM3,aFP,trivial⟩ Tryz.func46 fun z r _ h=>(aMt z.1 z.2.1 r h).elim fun k hk=>⟨k,.trans (by kernel_rfl) hk⟩
theorem aPJ:FOk Tryz.prog 154 fenterS:=fk {cx [] [41] 47 [1002000001,1002000002,1002000003,1002000004,1002000006,1000000,44] with rows:=[44] } ⟨[],[],[(1,[[],[],[],[],[0,1,2,3],[0,1,2,3,4],[0,1,2,3,4],[0,1,2,3,4],[0,1,2,3,4],[0,1,2,3,4,5,6,7,8],[0,1,2,3,4,5,6,7,8,9],[0,1,2,3,4,5,6,7,8,9],[0,1,2,3,4,5,6,7,8,9],[0,1,2,3,4,5,6,7,8,9],[0,1,2,3,4,5,6,7,8,9,10,11,12,13],[0,1,2,3,4,5,6,7,8,9,10,11,12,13],[0,1,2,3,4,5,6,7,8,9,10,11,12,13],[0,1,2,3,4,5,6,7,8,9,10,11,12,13],[9],[9],[],[]])],[(1,[0,1,2,3,4,5,6,7,8,19,9,10,11,12,13,14,15,16,17,18,20,21])]⟩ trivial Tryz.func154 fun z r _ h=>⟨0,.trans (by kernel_rfl) h⟩
theorem aI2:FOk Tryz.prog 107 clipIOS:=fk {cx [] [] 9 [0,8] with rows:=[1,8] } A0 trivial Tryz.func107 fun z r _ h=>⟨0,.trans (by kernel_rfl) ((aQ1 z.1).trans h)⟩
theorem aPx:FOk Tryz.prog 155 fleaveS:=fk {cx [(1000000000106,sortIS),(1000000000107,clipIOS)] [50,63] 70 [1002000001,1002000002,1002000003,1002000004,1002000006,1000000,4,41,53,65,67] with rows:=[4,41,53,65,67],thaws:=[65] } ⟨[(2,(6,[.own 4 3 ((.int .i64)),.lnk 1002000003 4 (.bool),.lnk 1002000004 3 ((.int .i64))]))],[],[(0,[[],[],[],[],[0,1,2,3],[],[],[0,1,2,3,4,5,6],[0,1,2,3,4,5,6],[0,1,2,3,4,5,6],[0,1,2,3,4,5,6],[0,1,2,3,4,5,6,7,8,9,10],[0,1,2,3,4,5,6],[0,1,2,3,4,5,6],[]]),(9,[[],[0],[0],[0],[0],[0,1,2,3,4],[0,1,2,3,4],[0,1,2,3,4],[0],[],[],[]])],[]⟩ ⟨aEZ,aI2,trivial⟩ Tryz.func155 fun z r _ h=>(aPw z.1 z.2.1 r h).elim fun k hk=>⟨k,.trans (by kernel_rfl) hk⟩
theorem aPG:FOk Tryz.prog 109 ffromS:=fk {cx [(154,fenterS),(155,fleaveS)] [83] 169 [1002000001,1002000002,1002000003,1002000004,1002000006,1000000,11,4,87,134] with rows:=[4,11,87,134] } ⟨[(2,(17,[.own 4 188 (dN),.lnk 1002000001 3 ((.int .i64)),.lnk 1002000002 3 ((.int .i64)),.lnk 1002000003 4 (.bool),.lnk 1002000004 3 ((.int .i64)),.lnk 1002000006 26 (aX),.box 1000000 155 [(kI,false),(.any,false),(.any,false),(.any,false),(.any,false),((.int .i64),false),(.any,false)]])),(4,(9,[.own 4 188 (dN),.ptr 5 4 0 2,.lnk 1002000002 3 ((.int .i64))]))],[(7,(1,[.val 62 (.bool) false]))],[(4,[[],[],[],[],[0,1,2,3],[0,1,2,3],[0,1,2,3],[0,1,2,3],[0,1,2,3,4,5,6,7],[0,1,2,3,4,5,6,7],[0,1,2,3,4,5,6,7],[0,1,2,3,4,5,6,7],[0,1,2,3],[0,1,2,3],[0,1,2,3],[]]),(5,[[],[],[],[],[0,1,2,3],[0,1,2,3],[0,1,2,3],[0,1,2,3],[],[],[0,1,2,3,4,5,6,7,8,9],[0,1,2,3,4,5,6,7,8,9],[0,1,2,3,4,5,6,7,8,9],[0,1,2,3,4,5,6,7,8,9],[],[],[]]),(12,[[],[],[],[],[0,1,2,3],[0,1,2,3],[0,1,2,3],[0,1,2,3],[0,1,2,3,4,5,6,7],[0,1,2,3,4,5,6,7],[0,1,2,3,4,5,6,7],[0,1,2,3,4,5,6,7],[0,1,2,3,4,5,6,7,8,9,10,11],[0,1,2,3,4,5,6,7,8,9,10,11],[0,1,2,3,4,5,6,7,8,9,10,11],[0,1,2,3,4,5,6,7,8,9,10,11],[0,1,2,3,4,5,6,7],[0,1,2,3,4,5,6,7],[0,1,2,3,4,5,6,7,8,9,10,11,12,13,14,15,16,17],[0,1,2,3,4,5,6,7,8,9,10,11,12,13,14,15,16,17],[0,1,2,3,4,5,6,7,8,9,10,11,12,13,14,15,16,17],[0,1,2,3,4,5,6,7,8,9,10,11,12,13,14,15,16,17],[0,1,2,3,4,5,6,7,8,9,10,11,12,13,14,15,16,17,18,19,20,21],[0,1,2,3,4,5,6,7,8,9,10,11,12,13,14,15,16,17],[0,1,2,3,4,5,6,7,8,9,10,11,12,13,14,15,16,17],[0,1,2,3,4,5,6,7],[],[]]),(18,[[],[],[],[],[0,1,2,3],[0,1,2,3,4],[0,1,2,3,4],[0,1,2,3,4],[0,1,2,3,4],[0,1,2,3,4,5,6,7,8],[0,1,2,3,4],[0,1,2,3,4],[0,1,2,3,4,5,6,7,8,9,10,11],[0,1,2,3,4,5,6,7,8,9,10,11],[0,1,2,3,4,5,6,7,8,9,10,11],[0,1,2,3,4,5,6,7,8,9,10,11],[0,1,2,3,4,5,6,7,8,9,10,11,12,13,14,15],[0,1,2,3,4,5,6,7,8,9,10,11],[0,1,2,3,4,5,6,7,8,9,10,11],[0,1,2,3,4],[],[]])],[]⟩ ⟨aPJ,aPx,trivial⟩ Tryz.func109 fun z r _ h=>(aPF z.1 z.2.1 r h).elim fun k hk=>⟨k,.trans (by kernel_rfl) hk⟩
theorem aQ3:FOk Tryz.prog 110 clipIIOS:=fk {cx [] [] 9 [0,8] with rows:=[1,8] } A0 trivial Tryz.func110 fun z r _ h=>⟨0,.trans (by kernel_rfl) ((aQ2 z.1).trans h)⟩
theorem aMe:FOk Tryz.prog 57 ringsS:=fk {cx [(109,ffromS),(1000000000110,clipIIOS)] [] 39 [2,10,12,14,2016001,2016002,2016003,2016004,2016006,16,38] with rows:=[2,10,12,14,38],lnks:=[(155,[1,2,3,4,6])] } ⟨[(4,(5,[.val 19 ((.int .i64)) false,.lnk 2016001 3 ((.int .i64)),.lnk 2016002 3 ((.int .i64)),.lnk 2016003 4 (.bool),.lnk 2016004 3 ((.int .i64)),.lnk 2016006 26 (aX),.box 16 155 [(kI,false),(.any,false),(.any,false),(.any,false),(.any,false),((.int .i64),false),(.any,false)]]))],[],[(2,[[],[0],[0],[0,1,2],[0,1,2],[0,1,2,3,4],[0,1,2,3,4],[],[],[]])],[]⟩ ⟨aPG,aQ3,trivial⟩ Tryz.func57 fun z r _ h=>(aMd z.1 r h).elim fun k hk=>⟨k,.trans (by kernel_rfl) hk⟩
theorem aMP:FOk Tryz.prog 97 r5localS:=fk (cx [] [] 26 [2,4]) ⟨[],[],[(1,[[],[0],[0],[],[0,1,2,3],[0,1,2,3],[],[]])],[]⟩ trivial Tryz.func97 fun z r _ h=>⟨0,.trans (by kernel_rfl) h⟩
theorem aL1:FOk Tryz.prog 129 rjoinS:=fk (cx [(53,rsubS),(89,raboveS),(99,rinS)] [] 55 [4,5,6]) ⟨[(9,(4,[.val 9 ((.int .i64)) false]))],[],[(7,[[],[0],[0],[],[0,1,2,3],[0,1,2,3,4],[0,1,2,3,4],[],[],[]])],[]⟩ ⟨aCj,aAk,aAg,trivial⟩ Tryz.func129 fun z r _ h=>(aL0 z.1 z.2.1 z.2.2.1 r h).elim fun k hk=>⟨k,.trans (by kernel_rfl) hk⟩
theorem aMA:FOk Tryz.prog 98 r8givesS:=fk (cx [] [] 10 [1]) A0 trivial Tryz.func98 fun z r _ h=>⟨0,.trans (by kernel_rfl) h⟩
theorem aMz:FOk Tryz.prog 51 r8ruleS:=fk (cx [(45,r5fieldsS),(91,r5slotS),(97,r5localS),(98,r8givesS)] [] 218 [3,5,8,9,10,11,12]) ⟨[],[],[(5,[[],[],[0,1],[]]),(7,[[],[],[0,1],[]]),(9,[[],[],[0,1],[],[],[0,1,2,3,4],[0,1,2,3,4],[],[],[8],[]]),(11,[[],[],[0,1],[],[],[0,1,2,3,4],[0,1,2,3,4],[],[],[],[]]),(17,[[],[],[0,1],[0,1],[2,3],[]]),(19,[[],[0],[],[0,1,2],[0,1,2],[3,4],[]]),(21,[[],[],[0,1],[]]),(23,[[],[],[0,1],[0,1],[2,3],[]]),(25,[[],[0],[],[0,1,2],[0,1,2],[3,4],[]]),(29,[[],[],[0,1],[0,1],[2,3],[]]),(31,[[],[],[0,1],[0,1,2],[0,1,2],[0,1],[0,1,2,3,4,5],[0,1,2,3,4,5],[0,1,2,3,4,5,6,7],[0,1,2,3,4,5,6,7],[0,1,2,3,4,5,6,7],[0,1],[6,7,8,9,10,11],[]]),(33,[[],[0],[0,1],[0,1],[0],[0,1,2,3,4],[0,1,2,3,4],[0],[0],[],[],[]]),(35,[[],[],[0,1],[0,1],[],[],[],[0,1,2,3,4,5,6],[]]),(39,[[],[],[0,1],[0,1],[2,3],[]]),(43,[[],[],[0,1],[0,1],[],[],[],[0,1,2,3,4,5,6],[0,1,2,3,4,5,6],[0,1,2,3,4,5,6,7,8],[0,1,2,3,4,5,6,7,8],[0,1,2,3,4,5,6],[0,1,2,3,4,5,6],[0,1,2,3,4,5,6],[],[]]),(46,[[],[],[0,1],[0,1],[0,1,2,3],[0,1],[0,1],[0,1],[0,1],[],[0,1,2,3,4,5,6,7,8,9],[0,1,2,3,4,5,6,7,8,9],[0,1,2,3,4,5,6,7,8,9,10,11],[0,1,2,3,4,5,6,7,8,9],[0,1,2,3,4,5,6,7,8,9],[],[],[]]),(48,[[],[0],[],[0,1,2],[0,1,2],[3,4],[]])],[(5,[1,2,0,3]),(7,[1,2,0,3]),(9,[0,1,2,3,4,5,6,7,9,8,10]),(17,[0,1,3,4,2,5]),(19,[0,1,2,4,5,3,6]),(21,[1,2,0,3]),(23,[0,1,3,4,2,5]),(25,[0,1,2,4,5,3,6]),(29,[0,1,3,4,2,5]),(35,[1,2,3,4,5,6,7,0,8]),(39,[0,1,3,4,2,5]),(48,[0,1,2,4,5,3,6])]⟩ ⟨aAu,aFP,aMP,aMA,trivial⟩ Tryz.func51 fun z r _ h=>⟨0,.trans (by kernel_rfl) h⟩
theorem aFI:FOk Tryz.prog 21 r8stepS:=fk (cx [(51,r8ruleS),(52,risrefS),(53,rsubS)] [65] 196 [4,11,15,18,19]) ⟨[(21,(9,[.val 17 ((.int .i64)) false]))],[(5,(2,[.val 12 (aX) true])),(7,(2,[.val 12 (aX) true])),(9,(2,[.val 12 (aX) true])),(11,(2,[])),(14,(3,[.val 13 (bN) false,.val 14 (bN) false])),(14,(1,[.val 104 (.bool) false])),(17,(2,[]))],[(11,[[],[],[],[],[],[],[],[4,5,6],[4,5,6],[4,5,6,7,8],[4,5,6],[4,5,6],[4,5,6],[4,5,6],[],[]]),(16,[[],[],[0,1],[0,1,2],[0,1],[2,3,4],[]]),(23,[[],[0],[0,1],[0],[],[],[0,1,2,3,4,5],[0,1,2,3,4,5,6],[0,1,2,3,4,5],[0,1,2,3,4,5],[0,1,2,3,4,5,6,7,8,9],[0,1,2,3,4,5,6,7,8,9,10],[6,7,8,9],[]])],[(16,[0,1,3,4,5,2,6]),(23,[0,1,2,3,4,5,9,10,11,12,6,7,8,13])]⟩ ⟨aMz,aFq,aCj,trivial⟩ Tryz.func21 fun z r _ h=>(aMw z.1 z.2.1 z.2.2.1 z.2.2.2.1 r h).elim fun k hk=>⟨k,.trans (by kernel_rfl) hk⟩
theorem aMy:FOk Tryz.prog 78 r8shapesS:=fk {cx [(21,r8stepS),(60,rtypesS),(129,rjoinS)] [119] 139 [2,27,18] with rows:=[27] } ⟨[(7,(32,[.val 8 ((.int .i64)) false,.row 27 52 (tE)])),(11,(26,[.val 9 (.bool) false,.val 10 ((.int .i64)) false,.row 27 52 (tE)])),(18,(19,[.val 9 (.bool) false,.val 14 ((.int .i64)) false,.row 27 52 (tE)])),(28,(6,[.val 16 (bN) true,.val 17 ((.int .i64)) false]))],[],[(14,[[],[0],[0,1],[0,1,2],[0,1,2,3],[0,1,2],[0,1,2],[0,1,2],[],[],[],[10],[10,11],[11,12],[12],[]]),(30,[[],[],[0,1],[0,1,2],[0,1],[0,1],[0,1],[0,1,2,3,4,5,6],[0,1],[0,1],[0,1,2,3,4,5,6,7,8,9],[0,1,2,3,4,5,6,7,8,9,10],[0,1,2,3,4,5,6,7,8,9],[0,1,2,3,4,5,6,7,8,9],[],[0,1,2,3,4,5,6,7,8,9,10,11,12,13,14],[]])],[(14,[0,1,2,3,4,5,6,7,8,9,10,12,14,11,13,15])]⟩ ⟨aFI,aFd,aL1,trivial⟩ Tryz.func78 fun z r _ h=>(aMx z.1 z.2.1 r h).elim fun k hk=>⟨k,.trans (by kernel_rfl) hk⟩
theorem aFK:FOk Tryz.prog 38 r8allS:=fk (cx [(78,r8shapesS)] [25] 30 [1]) ⟨[(3,(6,[.val 4 (nT) true,.val 5 ((.int .i64)) false]))],[],[],[]⟩ ⟨aMy,trivial⟩ Tryz.func38 fun z r _ h=>(aMB z.1 r h).elim fun k hk=>⟨k,.trans (by kernel_rfl) hk⟩
theorem aO9:FOk Tryz.prog 137 growTS:=fk {cx [] [] 27 [4,22,25,0,26] with rows:=[0,4,20,22,25,26],thaws:=[1000009,1000017,1000018] } A0 trivial Tryz.func137 fun z r _ h=>⟨0,.trans (by kernel_rfl) (aO8 z.1 z.2.1 r h)⟩
theorem aDQ:FOk Tryz.prog 94 concatTS:=fk {cx [(137,growTS)] [31] 36 [24,6,33] with rows:=[6,33] } ⟨[(3,(6,[.val 3 ((.int .i64)) false,.val 11 ((.int .i64)) false])),(11,(4,[.own 6 39 (dN),.val 27 ((.int .i64)) false]))],[],[],[]⟩ ⟨aO9,trivial⟩ Tryz.func94 fun z r _ h=>(aQw z.1 r h).elim fun k hk=>⟨k,.trans (by kernel_rfl) hk⟩
theorem aOW:FOk Tryz.prog 136 indexIS:=fk (cx [] [] 19 []) ⟨[(2,(5,[.val 8 ((.int .i64)) false]))],[],[],[]⟩ trivial Tryz.func136 fun z r hl h=>(aOV z.1 z.2.1 hl).elim fun k hk=>⟨k,.trans (by kernel_rfl) (hk.trans h)⟩
theorem aIK:FOk Tryz.prog 93 containsIS:=fk (cx [(136,indexIS)] [] 9 []) A0 ⟨aOW,trivial⟩ Tryz.func93 fun z r hl h=>⟨0,.trans (by kernel_rfl) ((aQr z.1 z.2.1 hl).trans h)⟩
theorem aQV:FOk Tryz.prog 50 clipQS:=fk (cx [] [] 9 []) A0 trivial Tryz.func50 fun z r _ h=>⟨0,.trans (by kernel_rfl) ((aQU z.1).trans h)⟩
theorem aQg:FOk Tryz.prog 134 cupS:=fk (cx [] [] 19 [2]) A0 trivial Tryz.func134 fun z r _ h=>⟨0,.trans (by kernel_rfl) (aQf z.1 z.2.1 r h)⟩
theorem aJg:FOk Tryz.prog 86 cfieldsS:=fk (cx [(94,concatTS),(134,cupS)] [] 26 [2]) ⟨[(4,(3,[.val 1 ((.int .i64)) false,.val 5 (bN) false]))],[],[],[]⟩ ⟨aDQ,aQg,trivial⟩ Tryz.func86 fun z r _ h=>(aQ8 z.1 z.2.1 r h).elim fun k hk=>⟨k,.trans (by kernel_rfl) hk⟩
theorem aQl:FOk Tryz.prog 43 csizeS:=fk (cx [(86,cfieldsS)] [] 10 [2]) A0 ⟨aJg,trivial⟩ Tryz.func43 fun z r _ h=>⟨0,.trans (by kernel_rfl) (aQk z.1 z.2.1 r h)⟩
theorem aQP:FOk Tryz.prog 140 clocalS:=fk (cx [] [] 40 [2,4]) A0 trivial Tryz.func140 fun z r _ h=>⟨0,.trans (by kernel_rfl) (aQO z.1 z.2.1 r h)⟩
theorem aNK:FOk Tryz.prog 184 numIsS:=fk (cx [] [] 9 []) A0 trivial Tryz.func184 fun z r _ h=>⟨0,.trans (by kernel_rfl) ((aNJ z.1).trans h)⟩
theorem aPq:FOk Tryz.prog 182 fnumberS:=fk (cx [] [] 2 [0]) A0 trivial Tryz.func182 fun z r _ h=>⟨0,.trans (by kernel_rfl) h⟩
theorem aPN:FOk Tryz.prog 183 farrayS:=fk (cx [] [] 2 [0]) A0 trivial Tryz.func183 fun z r _ h=>⟨0,.trans (by kernel_rfl) h⟩
theorem aPp:FOk Tryz.prog 141 fobjectS:=fk (cx [] [] 5 [2]) A0 trivial Tryz.func141 fun z r _ h=>⟨0,.trans (by kernel_rfl) h⟩
theorem aPk:FOk Tryz.prog 181 fplain1S:=fk (cx [] [] 4 []) A0 trivial Tryz.func181 fun z r _ h=>⟨0,.trans (by kernel_rfl) h⟩
theorem aPo:FOk Tryz.prog 139 fof1S:=fk (cx [] [] 5 [1]) A0 trivial Tryz.func139 fun z r _ h=>⟨0,.trans (by kernel_rfl) h⟩
theorem aPM:FOk Tryz.prog 142 fcalledS:=fk (cx [(94,concatTS)] [] 24 [2,4,5]) A0 ⟨aDQ,trivial⟩ Tryz.func142 fun z r _ h=>⟨0,.trans (by kernel_rfl) (aPL z.1 z.2.1 r h)⟩
theorem aPj:FOk Tryz.prog 138 fplainS:=fk (cx [(181,fplain1S),(182,fnumberS),(183,farrayS),(184,numIsS)] [] 118 [2,5]) A0 ⟨aPk,aPq,aPN,aNK,trivial⟩ Tryz.func138 fun z r _ h=>⟨0,.trans (by kernel_rfl) ((aPi z.1).trans h)⟩
theorem aPn:FOk Tryz.prog 95 fofS:=fk (cx [(86,cfieldsS),(88,cslotS),(138,fplainS),(139,fof1S),(140,clocalS),(141,fobjectS),(142,fcalledS)] [] 163 [3,4,6,7,8]) ⟨[],[],[(14,[[],[0],[0],[0],[],[0,1,2,3,4],[0,1,2,3,4,5],[0,1,2,3,4,5,6],[0,1,2,3,4,5,6],[5],[0,1,2,3,4,5,6,7,8,9],[0,1,2,3,4,5,6,7,8,9],[5],[5],[],[],[]]),(16,[[],[],[],[0,1,2],[0,1,2,3],[0,1,2,3],[],[0,1,2,3,4,5,6],[0,1,2,3,4,5,6],[],[],[],[],[]]),(25,[[],[],[0,1],[],[],[0,1,2,3,4],[0,1,2,3,4,5],[0,1,2,3,4,5],[0,1,2,3,4,5],[0,1,2,3,4],[],[]]),(27,[[],[0],[],[0,1,2],[0,1,2,3],[0,1,2,3],[3],[],[],[]])],[]⟩ ⟨aJg,aIF,aPj,aPo,aQP,aPp,aPM,trivial⟩ Tryz.func95 fun z r _ h=>⟨0,.trans (by kernel_rfl) (aPl z.1 z.2.1 z.2.2.1 r h)⟩
theorem aPI:FOk Tryz.prog 96 ffitsS:=fk (cx [(143,kisrefS),(144,ksubS)] [] 33 [4,6,7]) A0 ⟨aHt,aOB,trivial⟩ Tryz.func96 fun z r _ h=>⟨0,.trans (by kernel_rfl) ((aPH z.1 z.2.1 z.2.2.1 z.2.2.2.1).trans h)⟩
theorem aPs:FOk Tryz.prog 92 fnextsS:=fk (cx [] [] 24 [2]) A0 trivial Tryz.func92 fun z r _ h=>⟨0,.trans (by kernel_rfl) ((aPr z.1 z.2.1).trans h)⟩
theorem aHT:FOk Tryz.prog 49 fstepS:=fk (cx [(92,fnextsS),(93,containsIS),(94,concatTS),(95,fofS),(96,ffitsS)] [] 130 [4,11,12,15]) ⟨[(16,(5,[.val 9 (aX) false,.val 104 ((.int .i64)) false]))],[],[(18,[[],[0],[0],[0,1,2],[0,1,2,3],[0,1,2,3,4],[0,1,2,3],[0,1,2],[0,1,2],[0,1,2,3,4,5,6,7,8],[],[]]),(21,[[],[0],[],[0,1,2],[0,1,2],[],[],[0,1,2,3,4,5,6],[7],[],[]])],[(21,[0,1,2,3,4,5,6,8,7,9,10])]⟩ ⟨aPs,aIK,aDQ,aPn,aPI,trivial⟩ Tryz.func49 fun z r _ h=>(aPd z.1 z.2.1 z.2.2.1 z.2.2.2.1 r h).elim fun k hk=>⟨k,.trans (by kernel_rfl) hk⟩
theorem aQc:FOk Tryz.prog 112 cyc1S:=fk (cx [(93,containsIS)] [] 7 []) A0 ⟨aIK,trivial⟩ Tryz.func112 fun z r hl h=>⟨0,.trans (by kernel_rfl) ((aQb z.1 z.2.1 hl).trans h)⟩
theorem aO0:FOk Tryz.prog 85 indexCycS:=fk (cx [(112,cyc1S)] [] 19 []) ⟨[(2,(5,[.val 8 ((.int .i64)) false]))],[],[],[]⟩ ⟨aQc,trivial⟩ Tryz.func85 fun z r hl h=>(aOZ z.1 z.2.1 hl).elim fun k hk=>⟨k,.trans (by kernel_rfl) (hk.trans h)⟩
theorem aQu:FOk Tryz.prog 41 containsCycS:=fk (cx [(114000085,indexCycS)] [] 9 []) A0 ⟨aO0,trivial⟩ Tryz.func41 fun z r hl h=>⟨0,.trans (by kernel_rfl) ((aQt z.1 z.2.1 hl).trans h)⟩
theorem aQa:FOk Tryz.prog 59 cyclicS:=fk {cx [(114000041,containsCycS)] [] 28 [3] with thaws:=[1000003] } ⟨[(2,(6,[.val 9 ((.int .i64)) false]))],[],[],[]⟩ ⟨aQu,trivial⟩ Tryz.func59 fun z r _ h=>(aP9 z.1 z.2.1 r h).elim fun k hk=>⟨k,.trans (by kernel_rfl) hk⟩
theorem aNT:FOk Tryz.prog 132 mul64S:=fk (cx [] [] 51 []) A0 trivial Tryz.func132 fun z r _ h=>⟨0,.trans (by kernel_rfl) (aNS z.1 z.2.1 r h)⟩
theorem aDa:FOk Tryz.prog 82 lofS:=fk (cx [] [] 11 [2]) A0 trivial Tryz.func82 fun z r _ h=>⟨0,.trans (by kernel_rfl) ((aOo z.1).trans h)⟩
theorem aOj:FOk Tryz.prog 133 lsizeS:=fk (cx [] [] 10 []) A0 trivial Tryz.func133 fun z r _ h=>⟨0,.trans (by kernel_rfl) ((aOi z.1).trans h)⟩
theorem aOl:FOk Tryz.prog 83 lplusS:=fk (cx [(82,lofS)] [] 20 [2,3,4]) A0 ⟨aDa,trivial⟩ Tryz.func83 fun z r _ h=>⟨0,.trans (by kernel_rfl) (aOk z.1 z.2.1 r h)⟩
theorem aOh:FOk Tryz.prog 84 ltimesS:=fk (cx [(82,lofS),(132,mul64S),(133,lsizeS)] [] 39 [2,3,4]) ⟨[],[],[(3,[[],[],[],[0,1,2],[0,1,2],[],[],[],[],[8],[9],[]])],[(3,[0,1,2,3,4,5,6,7,8,10,9,11])]⟩ ⟨aDa,aNT,aOj,trivial⟩ Tryz.func84 fun z r _ h=>⟨0,.trans (by kernel_rfl) (aOg z.1 z.2.1 r h)⟩
theorem aOv:FOk Tryz.prog 40 lholdsS:=fk (cx [(82,lofS),(83,lplusS),(84,ltimesS)] [] 43 [2,6]) ⟨[(5,(4,[.val 19 ((.int .i64)) false,.box 6 130 [((.int .i64),false),(.bool,false)]]))],[],[(7,[[],[0],[0],[0,1,2],[0,1,2,3],[0,1,2],[0,1,2],[0],[0],[],[]])],[]⟩ ⟨aDa,aOl,aOh,trivial⟩ Tryz.func40 fun z r _ h=>(aOu z.1 z.2.1 r h).elim fun k hk=>⟨k,.trans (by kernel_rfl) hk⟩
theorem aGa:FOk Tryz.prog 48 pshapeS:=fk (cx [] [] 28 [6]) A0 trivial Tryz.func48 fun z r _ h=>⟨0,.trans (by kernel_rfl) (aM9 z.1 z.2.1 z.2.2.1 r h)⟩
theorem aCG:FOk Tryz.prog 17 pcostS:=fk (cx [(43,csizeS),(44,ctargetsS)] [] 50 [2,3]) ⟨[(8,(5,[.val 5 ((.int .i64)) false,.val 27 ((.int .i64)) false]))],[],[],[]⟩ ⟨aQl,aIC,trivial⟩ Tryz.func17 fun z r _ h=>(aNq z.1 z.2.1 r h).elim fun k hk=>⟨k,.trans (by kernel_rfl) hk⟩
theorem aNc:FOk Tryz.prog 47 prowS:=fk {cx [] [] 33 [2008000,8,11,2009000,9] with rows:=[11],thaws:=[32],lnks:=[(49,[0])] } A0 trivial Tryz.func47 fun z r _ h=>⟨0,.trans (by kernel_rfl) (aNb z.1 z.2.1 z.2.2.1 z.2.2.2.1 r h)⟩
theorem aCy:FOk Tryz.prog 19 prulesS:=fk (cx [(17,pcostS),(47,prowS),(48,pshapeS),(49,fstepS),(50,clipQS)] [81,94] 110 [3,10,11]) ⟨[(6,(14,[.val 8 (mC) true,.val 54 ((.int .i64)) false])),(15,(4,[.val 8 (mC) true,.val 90 ((.int .i64)) false]))],[(12,(2,[.val 8 (mC) true]))],[],[]⟩ ⟨aCG,aNc,aGa,aHT,aQV,trivial⟩ Tryz.func19 fun z r _ h=>(aNa z.1 z.2.1 z.2.2.1 r h).elim fun k hk=>⟨k,.trans (by kernel_rfl) hk⟩
theorem aNj:FOk Tryz.prog 42 pnegS:=fk (cx [] [] 5 []) A0 trivial Tryz.func42 fun z r _ h=>⟨0,.trans (by kernel_rfl) h⟩
theorem aOS:FOk Tryz.prog 85 indexNegS:=fk (cx [(42,pnegS)] [] 19 []) ⟨[(2,(5,[.val 8 ((.int .i64)) false]))],[],[],[]⟩ ⟨aNj,trivial⟩ Tryz.func85 fun z r hl h=>(aOR z.1 z.2.1 hl).elim fun k hk=>⟨k,.trans (by kernel_rfl) (hk.trans h)⟩
theorem aQp:FOk Tryz.prog 41 containsNegS:=fk (cx [(44000085,indexNegS)] [] 9 []) A0 ⟨aOS,trivial⟩ Tryz.func41 fun z r hl h=>⟨0,.trans (by kernel_rfl) ((aQo z.1 z.2.1 hl).trans h)⟩
theorem aNs:FOk Tryz.prog 15 pcheckS:=fk (cx [(19,prulesS),(40,lholdsS),(44000041,containsNegS)] [] 49 [2,7,9]) ⟨[(2,(12,[.val 15 ((.int .i64)) false])),(5,(6,[.val 25 ((.int .i64)) false]))],[],[],[]⟩ ⟨aCy,aOv,aQp,trivial⟩ Tryz.func15 fun z r _ h=>(aNr z.1 z.2.1 r h).elim fun k hk=>⟨k,.trans (by kernel_rfl) hk⟩
theorem aF3:FOk Tryz.prog 18 r14costS:=fk (cx [(45,r5fieldsS),(46,r8targetsS)] [] 53 [2,3]) ⟨[(8,(4,[.val 5 ((.int .i64)) false,.val 7 ((.int .i64)) false]))],[],[(10,[[],[],[0,1],[0,1,2],[0,1],[0,1],[],[],[],[0,1,2,3,4,5,6,7,8],[]]),(11,[[],[],[0,1],[0,1,2],[0,1],[0,1],[],[],[],[]])],[]⟩ ⟨aAu,aMu,trivial⟩ Tryz.func18 fun z r _ h=>(aM6 z.1 z.2.1 r h).elim fun k hk=>⟨k,.trans (by kernel_rfl) hk⟩
theorem aQX:FOk Tryz.prog 105 clipMOS:=fk {cx [] [] 9 [0,8] with rows:=[1,8] } A0 trivial Tryz.func105 fun z r _ h=>⟨0,.trans (by kernel_rfl) ((aQW z.1).trans h)⟩
theorem aO4:FOk Tryz.prog 55 icopyHS:=fk {cx [(100,anTS),(101,anJS),(102,anIS),(103,anXS),(104,clipCS),(1000000000105,clipMOS)] [30,68] 83 [1,2002003,2,2003003,3,5,7,71,79] with rows:=[71],thaws:=[3000082],lnks:=[(28,[3])] } ⟨[(3,(4,[.val 25 ((.int .i64)) false,.box 3 28 [(kH,true),(bN,false),(iQ,false),(.any,false),(aX,false),((.int .i64),false),((.int .i64),false)]])),(8,(5,[.val 47 ((.int .i64)) false,.lnk 2003003 42 (gQ)]))],[],[(1,[[],[],[],[0,1,2],[0,1,2],[],[0,1,2,3,4,5],[0,1,2,3,4,5],[],[0,1,2,3,4,5,6,7,8],[0,1,2,3,4,5,6,7,8],[0,1,2,3,4,5,6,7,8,9,10],[0,1,2,3,4,5,6,7,8,9,10],[],[0,1,2,3,4,5,6,7,8,9,10,11,12,13],[]]),(5,[[],[],[0,1],[0,1],[0,1,2,3],[0,1,2,3],[0,1,2,3],[0,1,2,3,4,5,6],[0,1,2,3,4,5,6],[0,1,2,3],[0,1],[0,1],[],[],[]]),(10,[[],[],[],[0,1,2],[0,1,2],[],[0,1,2,3,4,5],[0,1,2,3,4,5],[],[0,1,2,3,4,5,6,7,8],[0,1,2,3,4,5,6,7,8],[],[5,8,11],[],[],[],[],[],[],[]]),(13,[[],[],[],[0,1,2],[0,1,2],[],[5],[],[],[]])],[]⟩ ⟨aRz,aRB,aRC,aRy,aQ5,aQX,trivial⟩ Tryz.func55 fun z r _ h=>(aO3 z.1 r h).elim fun k hk=>⟨k,.trans (by kernel_rfl) hk⟩
theorem aQB:FOk Tryz.prog 56 cofLS:=fk {cx [(44,ctargetsS),(1000000000106,sortIS),(1000000000107,clipIOS),(1000000000108,compactIS)] [28] 39 [2,4,5,7,32,37,38] with rows:=[4,5,32,37] } ⟨[(5,(4,[.own 5 3 ((.int .i64)),.val 24 ((.int .i64)) false]))],[],[],[]⟩ ⟨aIC,aEZ,aI2,aQz,trivial⟩ Tryz.func56 fun z r _ h=>(aQA z.1 z.2.1 r h).elim fun k hk=>⟨k,.trans (by kernel_rfl) hk⟩
theorem aOd:FOk Tryz.prog 111 maxL15S:=fk (cx [] [] 25 []) ⟨[(5,(3,[.val 3 ((.int .i64)) false,.val 4 ((.int .i64)) false]))],[],[],[]⟩ trivial Tryz.func111 fun z r _ h=>(aOc z.1 r h).elim fun k hk=>⟨k,.trans (by kernel_rfl) hk⟩
theorem aNl:FOk Tryz.prog 58 pleastS:=fk {cx [(17,pcostS),(48,pshapeS),(49,fstepS),(2000000000111,maxL15S)] [] 93 [3,6,28,12,13] with rows:=[6,28],thaws:=[4000089] } ⟨[(4,(19,[.val 32 ((.int .i64)) false,.row 28 3 ((.int .i64))])),(7,(13,[.val 10 (.bool) false,.val 36 ((.int .i64)) false,.row 28 3 ((.int .i64))])),(13,(6,[.val 10 (.bool) false,.val 60 ((.int .i64)) false,.row 28 3 ((.int .i64))]))],[],[(15,[[],[0],[],[0,1,2],[0,1,2,3],[0,1,2],[0,1,2],[],[]])],[]⟩ ⟨aCG,aGa,aHT,aOd,trivial⟩ Tryz.func58 fun z r _ h=>(aNk z.1 z.2.1 z.2.2.1 r h).elim fun k hk=>⟨k,.trans (by kernel_rfl) hk⟩
theorem aNo:FOk Tryz.prog 23 pfillS:=fk {cx [(55,icopyHS),(57,ringsS),(59,cyclicS),(2000000000056,cofLS),(2000000000058,pleastS)] [25] 106 [2,4,18,2002003,28,54] with thaws:=[28,105,1000063,2000004,2000059,2000102,3000026,3000051],lnks:=[(28,[3])] } ⟨[(4,(5,[.val 6 (kI) true,.val 22 ((.int .i64)) false,.lnk 2002003 42 (gQ)])),(10,(20,[.val 40 ((.int .i64)) false,.lnk 2002003 42 (gQ)])),(13,(7,[.val 46 ((.int .i64)) false,.lnk 2002003 42 (gQ)])),(21,(8,[.val 69 ((.int .i64)) false,.lnk 2002003 42 (gQ)]))],[(23,(3,[.lnk 2002003 42 (gQ)]))],[(25,[[],[],[0,1],[0,1,2],[0,1,2],[0,1,2],[],[],[]])],[]⟩ ⟨aO4,aMe,aQa,aQB,aNl,trivial⟩ Tryz.func23 fun z r _ h=>(aNn z.1 z.2.1 r h).elim fun k hk=>⟨k,.trans (by kernel_rfl) hk⟩
theorem aM5:FOk Tryz.prog 22 r14sameS:=fk (cx [(54,rintsS)] [] 17 [2,3]) A0 ⟨aL6,trivial⟩ Tryz.func22 fun z r _ h=>⟨0,.trans (by kernel_rfl) (aM4 z.1 z.2.1 r h)⟩
theorem aLv:FOk Tryz.prog 37 sane15S:=fk (cx [(39,r5saneS)] [] 24 [1]) A0 ⟨aFQ,trivial⟩ Tryz.func37 fun z r _ h=>⟨0,.trans (by kernel_rfl) ((aLu z.1).trans h)⟩
theorem aJ1:FOk Tryz.prog 13 typed15S:=fk (cx [(37,sane15S),(38,r8allS)] [] 17 [1]) A0 ⟨aLv,aFK,trivial⟩ Tryz.func13 fun z r _ h=>⟨0,.trans (by kernel_rfl) h⟩
theorem aLO:FOk Tryz.prog 20 rule15S:=fk {cx [] [] 33 [2008000,8,11,2009000,9] with rows:=[11],thaws:=[32],lnks:=[(49,[0])] } A0 trivial Tryz.func20 fun z r _ h=>⟨0,.trans (by kernel_rfl) (aLN z.1 z.2.1 z.2.2.1 z.2.2.2.1 r h)⟩
theorem aRp:FOk Tryz.prog 14 awake15S:=fk (cx [(15,pcheckS),(17,pcostS),(18,r14costS),(19,prulesS),(23,pfillS),(38,r8allS),(39,r5saneS)] [] 121 [1,6]) ⟨[],[],[(6,[[],[],[],[],[],[],[],[],[],[],[],[],[],[],[],[],[],[],[],[],[],[],[],[],[],[],[],[],[],[],[],[],[],[],[],[],[],[],[],[],[],[],[],[42],[42],[42],[42],[42],[42],[42],[],[],[],[],[],[54],[],[],[],[],[],[],[],[],[],[],[],[66],[66],[66],[66],[66],[66],[66],[],[],[],[]])],[]⟩ ⟨aNs,aCG,aF3,aCy,aNo,aFK,aFQ,trivial⟩ Tryz.func14 fun z r _ h=>⟨0,.trans (by kernel_rfl) h⟩
theorem aNh (hl:∀z,wE Tryz.prog aAA z→∃k,aCB k z.1 z.2.1=some (true,())):FOk Tryz.prog 5 potRulesS:=fk (cx [(13,typed15S),(14,awake15S),(18,r14costS),(19,prulesS),(20,rule15S),(21,r8stepS),(22,r14sameS)] [90,104] 146 [2,8]) ⟨[(10,(10,[.val 9 (mC) true,.val 10 ((.int .i64)) false])),(17,(3,[.val 9 (mC) true,.val 14 ((.int .i64)) false])),(23,(4,[.val 15 ((.int .i64)) false]))],[(14,(2,[.val 9 (mC) true]))],[(13,[[],[0],[0,1],[0,1,2],[0,1,2,3],[0,1,2],[0,1,2],[0,1,2,3,4,5,6],[0,1,2],[0,1,2],[0,1,2],[],[],[],[13],[13,14],[14,15],[15],[]]),(19,[[],[0],[0],[0],[0,1,2,3],[0,1,2,3,4],[0,1,2,3,4,5],[0,1,2,3,4],[0,1,2,3,4],[0,1,2,3,4,5,6,7,8],[0,1,2,3,4,5,6,7,8,9],[0,1,2,3,4,5,6,7,8,9],[0,1,2,3,4,5,6,7,8,9,10,11],[0,1,2,3,4,5,6,7,8,9],[0,1,2,3,4,5,6,7,8,9],[0,1,2,3,4,5,6,7,8],[0,1,2,3,4,5,6,7,8],[0],[0],[],[]]),(25,[[],[0],[],[],[0,1,2,3],[0,1,2,3,4],[0,1,2,3],[0,1,2,3],[],[]])],[(13,[0,1,2,3,4,5,6,7,8,9,10,11,12,13,15,17,14,16,18])]⟩ ⟨aJ1,aRp,aF3,aCy,aLO,aFI,aM5,trivial⟩ Tryz.func5 fun z r _ h=>by
 by_cases hw:wE Tryz.prog aAA z
 ·obtain⟨k,hk⟩:=hl z hw
  exact⟨k,.trans (by kernel_rfl) (hk.trans ((if_pos hw).symm.trans h))⟩
 ·exact absurd ((if_neg hw).symm.trans h) (by intro h;cases h)
end
end Go.Pli
