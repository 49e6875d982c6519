import Derived.Test.YtcofionghgmldaaGreatPliLaw
import Derived.Test.YtcofionghgmldaaGreatPMSort
import Derived.Test.YtcofionghgmldaaGreatPliReach
import Derived.Test.YtcofionghgmldaaGreatPliLib13
import Derived.Test.YtcofionghgmldaaGreatPMKit
import Derived.Test.YtcofionghgmldaaGreatPMSaid
import Derived.Test.YtcofionghgmldaaGreatProg
import Derived.KernelRfl
namespace Go.Pli
open Go Go.PM
open Go.Proofs
abbrev dM:Ty:= .pair (.int .i64) (.pair (.int .i64) .unit)
abbrev bL:Ty:= .sl 39 dM
abbrev iN:Ty:= .sl 21 (.int .i32)
abbrev aY:Ty:= .sl 3 (.int .i64)
abbrev lB:Ty:= .pair (.int .i64) dM
abbrev kC:Ty:= .sl 45 lB
abbrev kE:Ty:= .sl 26 aY
abbrev sZ:Ty:= .pair .bool (.pair bL .unit)
abbrev aBQ:Ty:= .sl 52 sZ
abbrev nO:Ty:= .sl 53 aBQ
abbrev zL:Ty:= .pair aY (.pair (.int .i64) .unit)
abbrev qP:Ty:= .sl 49 zL
abbrev aEb:Ty:= .pair (.int .i64) (.pair bL (.pair aY .unit))
abbrev kD:Ty:= .sl 106 aEb
abbrev gM:Ty:= .pair bL (.pair bL (.pair dM (.pair kC (.pair (.int .i64) (.pair (.int .i64) (.pair aY .unit))))))
abbrev aEc:Ty:= .sl 42 gM
abbrev cX:Ty:= .pair kD (.pair bL (.pair iN (.pair aEc (.pair aY dM))))
abbrev aEd:Ty:= .sl 23 bL
abbrev aJN:Ty:= .pair kD (.pair bL (.pair iN (.pair (.osl 42 gM) (.pair aY dM))))
abbrev aEe:Ty:= .sl 4 .bool
abbrev aJO:Ty:= .sl 188 dM
def A0:Ann:=⟨[],[],[],[]⟩
def TY:List (TypeId×Ty):=[(3,(.int .i64)),(4,.bool),(22,kD),(23,bL),(24,iN),(25,aEc),(26,aY),(28,cX),(29,nO),(39,dM),(40,kC),(42,gM),(45,lB),(46,qP),(49,zL),(52,sZ),(53,aBQ),(64,kE),(66,aEe),(106,aEb),(130,(.pair (.int .i64) (.pair .bool .unit))),(141,(.pair bL (.pair bL .unit))),(155,(.pair kE (.pair aY (.pair aY (.pair aEe (.pair aY (.pair (.int .i64) (.pair kE .unit)))))))),(172,(.int .u64)),(178,aEd),(188,dM),(189,aJO)]
theorem aRh:aBV Tryz.prog TY=true:=by kernel_rfl
def cx (fns:List (FuncId×FSpec)) (tips:List Nat) (n:Nat) (bxs:List Nat):Ctx:={ty:=TY,fns:=fns,tips:=tips,n:=n,bxs:=bxs,ptrs:=[] }
theorem fk (G:Ctx) {f:FuncId} {fn:Func} (A:Ann) {S:FSpec} (h3:FnsOk Tryz.prog G.fns) (hf:Tryz.prog.funcs[f]? =some fn) (h:∀z r,aBJ S.ps z→S.run z=some r→∃k,aA3 G A k fn S.ps S.rs z=some r) (h1:G.ty=TY:=by rfl) (h2:G.ptrs.all (aCo Tryz.prog)=true:=by kernel_rfl) (hb:fn.body.isSome=true:=by kernel_rfl) (hn:(fn.name=="runtime.NumGoroutine")=false:=by kernel_rfl) (h4:G.sets.all (aB5 Tryz.prog)=true:=by rfl):FOk Tryz.prog f S:=fok (aPQ (by rw[h1];exact aRh) h2 h3 h4) hf hb hn h
noncomputable section
def rinS:FSpec:=⟨[.val (aY),.val ((.int .i64))],[.val (.bool)],fun z=>rin z.1 z.2.1⟩
def rargsS:FSpec:=⟨[.val ((.int .i64))],[.val ((.int .i64))],fun z=>some (pH z.1,())⟩
def rinstrS:FSpec:=⟨[.val (lB)],[.val (.bool)],fun z=>some (xC z.1,())⟩
def clipCS:FSpec:=⟨[.val (kD)],[.val (kD)],fun z=>some (idL z.1,())⟩
def clipTS:FSpec:=⟨[.val (bL)],[.val (bL)],fun z=>some (idL z.1,())⟩
def clipIS:FSpec:=⟨[.val (aY)],[.val (aY)],fun z=>some (idL z.1,())⟩
def clipXS:FSpec:=⟨[.val (kC)],[.val (kC)],fun z=>some (idL z.1,())⟩
def clipJS:FSpec:=⟨[.val (iN)],[.val (iN)],fun z=>some (idL z.1,())⟩
def cloneTS:FSpec:=⟨[.val (bL)],[.val (bL)],fun z=>aBj z.1⟩
def cloneJS:FSpec:=⟨[.val (iN)],[.val (iN)],fun z=>aBk z.1⟩
def cloneIS:FSpec:=⟨[.val (aY)],[.val (aY)],fun z=>aBl z.1⟩
def cloneXS:FSpec:=⟨[.val (kC)],[.val (kC)],fun z=>aBi z.1⟩
def anTS:FSpec:=⟨[.val (bL)],[.val (bL)],fun z=>sP z.1⟩
def anJS:FSpec:=⟨[.val (iN)],[.val (iN)],fun z=>aBA z.1⟩
def anIS:FSpec:=⟨[.val (aY)],[.val (aY)],fun z=>vW z.1⟩
def anXS:FSpec:=⟨[.val (kC)],[.val (kC)],fun z=>aBy z.1⟩
def kisrefS:FSpec:=⟨[.val (dM)],[.val (.bool)],fun z=>some (hJ z.1,())⟩
def kupS:FSpec:=⟨[.val (kD),.val ((.int .i64))],[.val ((.int .i64))],fun z=>some (kup z.1 z.2.1,())⟩
def kbelowS:FSpec:=⟨[.val (kD),.val ((.int .i64)),.val ((.int .i64))],[.val (.bool)],fun z=>some (dA z.1 z.2.1 z.2.2.1,())⟩
def ksubS:FSpec:=⟨[.val (kD),.val (dM),.val (dM)],[.val (.bool)],fun z=>some (cF z.1 z.2.1 z.2.2.1,())⟩
def raboveS:FSpec:=⟨[.val (kD),.val ((.int .i64))],[.val (aY)],fun z=>iQ z.1 z.2.1⟩
def risrefS:FSpec:=⟨[.val (dM)],[.val (.bool)],fun z=>some (rC z.1,())⟩
def rgoodS:FSpec:=⟨[.val (dM),.val ((.int .i64))],[.val (.bool)],fun z=>some (rE z.1 z.2.1,())⟩
def rsubS:FSpec:=⟨[.val (kD),.val (dM),.val (dM)],[.val (.bool)],fun z=>lF z.1 z.2.1 z.2.2.1⟩
def rtypesS:FSpec:=⟨[.val (bL),.val (bL)],[.val (.bool)],fun z=>some (tJ z.1 z.2.1,())⟩
def r5inS:FSpec:=⟨[.val ((.int .i64)),.val ((.int .i64)),.val ((.int .i64))],[.val (.bool)],fun z=>some (gY z.1 z.2.1 z.2.2.1,())⟩
def r5listS:FSpec:=⟨[.val (aY),.val ((.int .i64)),.val ((.int .i64))],[.val (.bool)],fun z=>some (nV z.1 z.2.1 z.2.2.1,())⟩
def r5typS:FSpec:=⟨[.val (dM)],[.val (.bool)],fun z=>some (pI z.1,())⟩
def r5typesS:FSpec:=⟨[.val (bL),.val ((.int .i64))],[.val (.bool)],fun z=>some (lH z.1 z.2.1,())⟩
def r5fitsS:FSpec:=⟨[.val (cX)],[.val (.bool)],fun z=>some (rH z.1,())⟩
def r5fieldsS:FSpec:=⟨[.val (cX),.val ((.int .i64))],[.tip (bL)],fun z=>iE z.1 z.2.1⟩
def r5goodS:FSpec:=⟨[.val (cX),.val (bL)],[.val (.bool)],fun z=>some (mM z.1 z.2.1,())⟩
def r5classS:FSpec:=⟨[.val (cX),.val ((.int .i64))],[.val (.bool)],fun z=>tY z.1 z.2.1⟩
def r5namedS:FSpec:=⟨[.val (cX),.val (gM),.val (lB)],[.val (.bool)],fun z=>tW z.1 z.2.1 z.2.2.1⟩
def r5methodS:FSpec:=⟨[.val (cX),.val (gM)],[.val (.bool)],fun z=>tX z.1 z.2.1⟩
def r5saneS:FSpec:=⟨[.val (cX)],[.val ((.int .i64))],fun z=>some (rG z.1,())⟩
def sortIS:FSpec:=⟨[.own 3 ((.int .i64))],[],fun z=>some (wU z.1)⟩
def compactIS:FSpec:=⟨[.take 3 ((.int .i64))],[.own 3 ((.int .i64))],fun z=>some (dO z.1,())⟩
def cbelowS:FSpec:=⟨[.val (cX),.val ((.int .i64))],[.val (aY)],fun z=>vO z.1 z.2.1⟩
def cslotS:FSpec:=⟨[.val (cX),.val ((.int .i64)),.val ((.int .i64))],[.val ((.int .i64)),.val (.bool)],fun z=>some (dJ z.1 z.2.1 z.2.2.1)⟩
def ctargetsS:FSpec:=⟨[.val (cX),.val (lB)],[.tip (aY)],fun z=>oO z.1 z.2.1⟩
def r5belowS:FSpec:=⟨[.val (cX),.val ((.int .i64))],[.tip (aY)],fun z=>tZ z.1 z.2.1⟩
def r5slotS:FSpec:=⟨[.val (cX),.val ((.int .i64)),.val ((.int .i64))],[.val ((.int .i64)),.val (.bool)],fun z=>some (xL z.1 z.2.1 z.2.2.1)⟩
def r8targetsS:FSpec:=⟨[.val (cX),.val (lB)],[.tip (aY)],fun z=>tO z.1 z.2.1⟩
def fenterS:FSpec:=⟨[.box 155 ((.pair kE (.pair (.osl 3 (.int .i64)) (.pair (.osl 3 (.int .i64)) (.pair (.osl 4 .bool) (.pair (.osl 3 (.int .i64)) (.pair (.int .i64) (.pair (.osl 26 aY) .unit)))))))),.val ((.int .i64))],[],fun z=>vI z.1 z.2.1⟩
def fleaveS:FSpec:=⟨[.box 155 ((.pair kE (.pair (.osl 3 (.int .i64)) (.pair (.osl 3 (.int .i64)) (.pair (.osl 4 .bool) (.pair (.osl 3 (.int .i64)) (.pair (.int .i64) (.pair (.osl 26 aY) .unit)))))))),.val ((.int .i64))],[],fun z=>vF z.1 z.2.1⟩
def ffromS:FSpec:=⟨[.box 155 ((.pair kE (.pair (.osl 3 (.int .i64)) (.pair (.osl 3 (.int .i64)) (.pair (.osl 4 .bool) (.pair (.osl 3 (.int .i64)) (.pair (.int .i64) (.pair (.osl 26 aY) .unit)))))))),.val ((.int .i64))],[],fun z=>vH z.1 z.2.1⟩
def clipIOS:FSpec:=⟨[.take 3 ((.int .i64))],[.own 3 ((.int .i64))],fun z=>some (idL z.1,())⟩
def clipIIOS:FSpec:=⟨[.take 26 (aY)],[.own 26 (aY)],fun z=>some (idL z.1,())⟩
def ringsS:FSpec:=⟨[.val (kE)],[.val (kE)],fun z=>jO z.1⟩
def r5localS:FSpec:=⟨[.val (gM),.val ((.int .i64))],[.val (dM)],fun z=>xN z.1 z.2.1⟩
def rjoinS:FSpec:=⟨[.val (kD),.val (dM),.val (dM)],[.val (dM)],fun z=>tL z.1 z.2.1 z.2.2.1⟩
def r8givesS:FSpec:=⟨[.val (gM)],[.val (bL)],fun z=>tT z.1⟩
def r8ruleS:FSpec:=⟨[.val (cX),.val ((.int .i64)),.val (lB)],[.val (bL),.val (bL)],fun z=>xK z.1 z.2.1 z.2.2.1⟩
def r8stepS:FSpec:=⟨[.val (cX),.val ((.int .i64)),.val ((.int .i64)),.val (bL)],[.val (bL),.val (aY),.val ((.int .i64))],fun z=>tQ z.1 z.2.1 z.2.2.1 z.2.2.2.1⟩
def r8shapesS:FSpec:=⟨[.val (cX),.val ((.int .i64))],[.val (aBQ),.val (.bool)],fun z=>tS z.1 z.2.1⟩
def r8allS:FSpec:=⟨[.val (cX)],[.val (nO),.val ((.int .i64))],fun z=>jP z.1⟩
def growTS:FSpec:=⟨[.nilp true,.val ((.int .i64))],[.own 39 (dM)],fun z=>vD z.1 z.2.1⟩
def concatTS:FSpec:=⟨[.val (aEd)],[.val (bL)],fun z=>nF z.1⟩
def indexIS:FSpec:=⟨[.val (aY),.val ((.int .i64))],[.val ((.int .i64))],fun z=>some (aAV z.1 z.2.1,())⟩
def containsIS:FSpec:=⟨[.val (aY),.val ((.int .i64))],[.val (.bool)],fun z=>some (vM z.1 z.2.1,())⟩
def clipQS:FSpec:=⟨[.val (qP)],[.val (qP)],fun z=>some (idL z.1,())⟩
def cupS:FSpec:=⟨[.val (cX),.val ((.int .i64))],[.val ((.int .i64))],fun z=>cup z.1 z.2.1⟩
def cfieldsS:FSpec:=⟨[.val (cX),.val ((.int .i64))],[.val (bL)],fun z=>oQ z.1 z.2.1⟩
def csizeS:FSpec:=⟨[.val (cX),.val ((.int .i64))],[.val ((.int .i64))],fun z=>vL z.1 z.2.1⟩
def clocalS:FSpec:=⟨[.val (gM),.val ((.int .i64))],[.val (dM)],fun z=>sM z.1 z.2.1⟩
def numIsS:FSpec:=⟨[.val ((.int .i64))],[.val (.bool)],fun z=>some (lJ z.1,())⟩
def fnumberS:FSpec:=⟨[],[.val (dM)],fun _=>some (iG,())⟩
def farrayS:FSpec:=⟨[],[.val (dM)],fun _=>some (vJ,())⟩
def fobjectS:FSpec:=⟨[.val ((.int .i64))],[.val (dM)],fun z=>some (lW z.1,())⟩
def fplain1S:FSpec:=⟨[.val (bL)],[.val (bL)],fun z=>some (gB z.1,())⟩
def fof1S:FSpec:=⟨[.val (dM)],[.val (bL)],fun z=>some (fE z.1,())⟩
def fcalledS:FSpec:=⟨[.val (gM),.val (bL)],[.val ((.pair bL (.pair bL .unit)))],fun z=>sF z.1 z.2.1⟩
def fplainS:FSpec:=⟨[.val ((.int .i64))],[.val ((.pair bL (.pair bL .unit))),.val (.bool)],fun z=>some (eE z.1)⟩
def fofS:FSpec:=⟨[.val (cX),.val (lB),.val ((.int .i64))],[.val ((.pair bL (.pair bL .unit)))],fun z=>fof z.1 z.2.1 z.2.2.1⟩
def ffitsS:FSpec:=⟨[.val (cX),.val ((.int .i64)),.val (dM),.val (dM)],[.val (.bool)],fun z=>some (dU z.1 z.2.1 z.2.2.1 z.2.2.2.1,())⟩
def fnextsS:FSpec:=⟨[.val (lB),.val ((.int .i64))],[.val (aY)],fun z=>some (dR z.1 z.2.1,())⟩
def fstepS:FSpec:=⟨[.val (cX),.val ((.int .i64)),.val ((.int .i64)),.val (bL)],[.val (bL),.val (aY),.val ((.int .i64))],fun z=>oK z.1 z.2.1 z.2.2.1 z.2.2.2.1⟩
def cyc1S:FSpec:=⟨[.val ((.int .i64)),.cap (aY)],[.val (.bool)],fun z=>some (sL z.1 z.2.1,())⟩
def indexCycS:FSpec:=⟨[.val (aY),.val ((.clo 112 (.pair aY .unit)))],[.val ((.int .i64))],fun z=>some (aAX z.1 z.2.1,())⟩
def containsCycS:FSpec:=⟨[.val (aY),.val ((.clo 112 (.pair aY .unit)))],[.val (.bool)],fun z=>some (yT z.1 z.2.1,())⟩
def cyclicS:FSpec:=⟨[.val (kE),.val (aY)],[.val (.bool)],fun z=>sK z.1 z.2.1⟩
def mul64S:FSpec:=⟨[.val ((.int .u64)),.val ((.int .u64))],[.val ((.int .u64)),.val ((.int .u64))],fun z=>uJ z.1 z.2.1⟩
def lofS:FSpec:=⟨[.val ((.int .i64))],[.val ((.pair (.int .i64) (.pair .bool .unit)))],fun z=>some (lof z.1,())⟩
def lsizeS:FSpec:=⟨[.val ((.int .i64))],[.val ((.int .u64))],fun z=>some (eZ z.1,())⟩
def lplusS:FSpec:=⟨[.val ((.pair (.int .i64) (.pair .bool .unit))),.val ((.pair (.int .i64) (.pair .bool .unit)))],[.val ((.pair (.int .i64) (.pair .bool .unit)))],fun z=>yC z.1 z.2.1⟩
def ltimesS:FSpec:=⟨[.val ((.pair (.int .i64) (.pair .bool .unit))),.val ((.pair (.int .i64) (.pair .bool .unit)))],[.val ((.pair (.int .i64) (.pair .bool .unit)))],fun z=>yB z.1 z.2.1⟩
def lholdsS:FSpec:=⟨[.val (zL),.val (aY)],[.val (.bool),.val ((.int .i64))],fun z=>uV z.1 z.2.1⟩
def pshapeS:FSpec:=⟨[.val (nO),.val ((.int .i64)),.val ((.int .i64))],[.val (sZ)],fun z=>nW z.1 z.2.1 z.2.2.1⟩
def pcostS:FSpec:=⟨[.val (cX),.val (lB)],[.val ((.int .i64))],fun z=>iT z.1 z.2.1⟩
def prowS:FSpec:=⟨[.val ((.int .i64)),.val ((.int .i64)),.val ((.int .i64)),.val ((.int .i64))],[.val (zL)],fun z=>pJ z.1 z.2.1 z.2.2.1 z.2.2.2.1⟩
def prulesS:FSpec:=⟨[.val (cX),.val (nO),.val ((.int .i64))],[.val (qP)],fun z=>rK z.1 z.2.1 z.2.2.1⟩
def pnegS:FSpec:=⟨[.val ((.int .i64))],[.val (.bool)],fun z=>some (aF0 z.1,())⟩
def indexNegS:FSpec:=⟨[.val (aY),.val ((.clo 42 .unit))],[.val ((.int .i64))],fun z=>some (aAU z.1 z.2.1,())⟩
def containsNegS:FSpec:=⟨[.val (aY),.val ((.clo 42 .unit))],[.val (.bool)],fun z=>some (yS z.1 z.2.1,())⟩
def pcheckS:FSpec:=⟨[.val (cX),.val (nO)],[.val ((.int .i64)),.val ((.int .i64))],fun z=>nX z.1 z.2.1⟩
def r14costS:FSpec:=⟨[.val (cX),.val (lB)],[.val ((.int .i64))],fun z=>rI z.1 z.2.1⟩
def clipMOS:FSpec:=⟨[.take 42 (gM)],[.own 42 (gM)],fun z=>some (idL z.1,())⟩
def icopyHS:FSpec:=⟨[.val (cX)],[.str (aJN)],fun z=>vB z.1⟩
def cofLS:FSpec:=⟨[.val (cX),.val ((.int .i64))],[.own 3 ((.int .i64))],fun z=>cof z.1 z.2.1⟩
def maxL15S:FSpec:=⟨[.val (aY)],[.val ((.int .i64))],fun z=>uP z.1⟩
def pleastS:FSpec:=⟨[.val (cX),.val (nO),.val ((.int .i64))],[.own 3 ((.int .i64)),.val (.bool)],fun z=>rM z.1 z.2.1 z.2.2.1⟩
def pfillS:FSpec:=⟨[.val (cX),.val (nO)],[.val (cX),.val (.bool)],fun z=>rN z.1 z.2.1⟩
def sane15S:FSpec:=⟨[.val (cX)],[.val (.bool)],fun z=>some (tG z.1,())⟩
def typed15S:FSpec:=⟨[.val (cX)],[.val (nO),.val (.bool)],fun z=>wJ z.1⟩
def awake15S:FSpec:=⟨[],[.val (.bool)],fun _=>awake15N⟩
def aAs:List Ty:=[cX]
noncomputable def potCostsS:FSpec:=⟨[.val (cX)],[.val (.bool)],fun z=>@ite _ (vX Tryz.prog aAs z) (Classical.propDecidable _) (some (true,())) none⟩
theorem aEK:FOk Tryz.prog 106 sortIS:=sort_fok 3 ⟨_,Tryz.func106,by kernel_rfl,by kernel_rfl⟩ Tryz.slices_Sort_int Tryz.slices_Sort_int_none
theorem aP9:FOk Tryz.prog 108 compactIS:=compact_fok 3 ⟨_,Tryz.func108,by kernel_rfl,by kernel_rfl⟩ Tryz.slices_Compact_int Tryz.slices_Compact_int_empty
theorem zY:FOk Tryz.prog 99 rinS:=fk (cx [] [] 18 []) ⟨[(2,(4,[.val 5 ((.int .i64)) false]))],[],[],[]⟩ trivial Tryz.func99 fun z r _ h=>(aLQ z.1 z.2.1 r h).elim fun k hk=>⟨k,.trans (by kernel_rfl) hk⟩
theorem aL0:FOk Tryz.prog 76 rargsS:=fk (cx [(99,rinS)] [] 24 []) A0 ⟨zY,trivial⟩ Tryz.func76 fun z r _ h=>⟨0,.trans (by kernel_rfl) ((aLZ z.1).trans h)⟩
theorem aLM:FOk Tryz.prog 70 rinstrS:=fk (cx [(76,rargsS)] [] 45 [1]) ⟨[],[(2,(2,[]))],[],[]⟩ ⟨aL0,trivial⟩ Tryz.func70 fun z r _ h=>⟨0,.trans (by kernel_rfl) ((aLL z.1).trans h)⟩
theorem aQF:FOk Tryz.prog 104 clipCS:=fk (cx [] [] 9 []) A0 trivial Tryz.func104 fun z r _ h=>⟨0,.trans (by kernel_rfl) ((aQE z.1).trans h)⟩
theorem aQt:FOk Tryz.prog 145 clipTS:=fk (cx [] [] 9 []) A0 trivial Tryz.func145 fun z r _ h=>⟨0,.trans (by kernel_rfl) ((aQs z.1).trans h)⟩
theorem aIN:FOk Tryz.prog 107 clipIS:=fk (cx [] [] 9 []) A0 trivial Tryz.func107 fun z r _ h=>⟨0,.trans (by kernel_rfl) ((aQA z.1).trans h)⟩
theorem aQr:FOk Tryz.prog 150 clipXS:=fk (cx [] [] 9 []) A0 trivial Tryz.func150 fun z r _ h=>⟨0,.trans (by kernel_rfl) ((aQq z.1).trans h)⟩
theorem aQz:FOk Tryz.prog 147 clipJS:=fk (cx [] [] 9 []) A0 trivial Tryz.func147 fun z r _ h=>⟨0,.trans (by kernel_rfl) ((aQy z.1).trans h)⟩
def cloneTS0:FSpec:=⟨[.full (bL) false],[.val (bL)],fun _=>some (([]:List Tp),())⟩
def cloneTS1:FSpec:=⟨[.full (bL) true],[.val (bL)],fun z=>aBj z.1⟩
theorem aQg:FOk Tryz.prog 146 cloneTS0:=fk (cx [] [] 8 []) A0 trivial Tryz.func146 fun z r _ h=>⟨0,.trans (by kernel_rfl) h⟩
theorem aQf:FOk Tryz.prog 146 cloneTS1:=fk (cx [] [] 8 []) A0 trivial Tryz.func146 fun z r _ h=>⟨0,.trans (by kernel_rfl) h⟩
theorem aQh:FOk Tryz.prog 146 cloneTS:=FOk.split _ aQf aQg (fun _ h=>h)
def cloneJS0:FSpec:=⟨[.full (iN) false],[.val (iN)],fun _=>some (([]:List Int),())⟩
def cloneJS1:FSpec:=⟨[.full (iN) true],[.val (iN)],fun z=>aBk z.1⟩
theorem aQj:FOk Tryz.prog 148 cloneJS0:=fk (cx [] [] 8 []) A0 trivial Tryz.func148 fun z r _ h=>⟨0,.trans (by kernel_rfl) h⟩
theorem aQi:FOk Tryz.prog 148 cloneJS1:=fk (cx [] [] 8 []) A0 trivial Tryz.func148 fun z r _ h=>⟨0,.trans (by kernel_rfl) h⟩
theorem aQk:FOk Tryz.prog 148 cloneJS:=FOk.split _ aQi aQj (fun _ h=>h)
def cloneIS0:FSpec:=⟨[.full (aY) false],[.val (aY)],fun _=>some (([]:List Int),())⟩
def cloneIS1:FSpec:=⟨[.full (aY) true],[.val (aY)],fun z=>aBl z.1⟩
theorem aQm:FOk Tryz.prog 149 cloneIS0:=fk (cx [] [] 8 []) A0 trivial Tryz.func149 fun z r _ h=>⟨0,.trans (by kernel_rfl) h⟩
theorem aQl:FOk Tryz.prog 149 cloneIS1:=fk (cx [] [] 8 []) A0 trivial Tryz.func149 fun z r _ h=>⟨0,.trans (by kernel_rfl) h⟩
theorem aQn:FOk Tryz.prog 149 cloneIS:=FOk.split _ aQl aQm (fun _ h=>h)
def cloneXS0:FSpec:=⟨[.full (kC) false],[.val (kC)],fun _=>some (([]:List Ins),())⟩
def cloneXS1:FSpec:=⟨[.full (kC) true],[.val (kC)],fun z=>aBi z.1⟩
theorem aQd:FOk Tryz.prog 151 cloneXS0:=fk (cx [] [] 8 []) A0 trivial Tryz.func151 fun z r _ h=>⟨0,.trans (by kernel_rfl) h⟩
theorem aQc:FOk Tryz.prog 151 cloneXS1:=fk (cx [] [] 8 []) A0 trivial Tryz.func151 fun z r _ h=>⟨0,.trans (by kernel_rfl) h⟩
theorem aQe:FOk Tryz.prog 151 cloneXS:=FOk.split _ aQc aQd (fun _ h=>h)
theorem aQ8:FOk Tryz.prog 100 anTS:=fk (cx [(145,clipTS),(146,cloneTS)] [] 6 []) A0 ⟨aQt,aQh,trivial⟩ Tryz.func100 fun z r _ h=>⟨0,.trans (by kernel_rfl) h⟩
theorem aRa:FOk Tryz.prog 101 anJS:=fk (cx [(147,clipJS),(148,cloneJS)] [] 6 []) A0 ⟨aQz,aQk,trivial⟩ Tryz.func101 fun z r _ h=>⟨0,.trans (by kernel_rfl) h⟩
theorem aRb:FOk Tryz.prog 102 anIS:=fk (cx [(107,clipIS),(149,cloneIS)] [] 6 []) A0 ⟨aIN,aQn,trivial⟩ Tryz.func102 fun z r _ h=>⟨0,.trans (by kernel_rfl) h⟩
theorem aQ7:FOk Tryz.prog 103 anXS:=fk (cx [(150,clipXS),(151,cloneXS)] [] 6 []) A0 ⟨aQr,aQe,trivial⟩ Tryz.func103 fun z r _ h=>⟨0,.trans (by kernel_rfl) h⟩
theorem aHe:FOk Tryz.prog 143 kisrefS:=fk (cx [] [] 16 [1]) A0 trivial Tryz.func143 fun z r _ h=>⟨0,.trans (by kernel_rfl) ((aOd z.1).trans h)⟩
theorem aOa:FOk Tryz.prog 180 kupS:=fk (cx [] [] 27 []) A0 trivial Tryz.func180 fun z r _ h=>⟨0,.trans (by kernel_rfl) ((aN9 z.1 z.2.1).trans h)⟩
theorem aHh:FOk Tryz.prog 135 kbelowS:=fk (cx [(180,kupS)] [] 29 []) ⟨[(3,(4,[.val 1 ((.int .i64)) false]))],[],[],[]⟩ ⟨aOa,trivial⟩ Tryz.func135 fun z r _ h=>(aOf z.1 z.2.1 z.2.2.1).elim fun k hk=>⟨k,.trans (by kernel_rfl) (hk.trans h)⟩
theorem aOc:FOk Tryz.prog 144 ksubS:=fk (cx [(135,kbelowS),(143,kisrefS)] [] 41 [4,5]) A0 ⟨aHh,aHe,trivial⟩ Tryz.func144 fun z r _ h=>⟨0,.trans (by kernel_rfl) ((aOb z.1 z.2.1 z.2.2.1).trans h)⟩
theorem aAc:FOk Tryz.prog 89 raboveS:=fk (cx [] [16] 30 []) ⟨[(2,(6,[.val 1 ((.int .i64)) false,.val 5 (aY) true]))],[],[],[]⟩ trivial Tryz.func89 fun z r _ h=>(aL1 z.1 z.2.1 r h).elim fun k hk=>⟨k,.trans (by kernel_rfl) hk⟩
theorem aFc:FOk Tryz.prog 52 risrefS:=fk (cx [] [] 16 [1]) A0 trivial Tryz.func52 fun z r _ h=>⟨0,.trans (by kernel_rfl) ((aLJ z.1).trans h)⟩
theorem aFk:FOk Tryz.prog 130 rgoodS:=fk (cx [] [] 34 [2]) A0 trivial Tryz.func130 fun z r _ h=>⟨0,.trans (by kernel_rfl) ((aLS z.1 z.2.1).trans h)⟩
theorem aCc:FOk Tryz.prog 53 rsubS:=fk (cx [(52,risrefS),(89,raboveS),(99,rinS)] [] 40 [4,5]) ⟨[],[],[(4,[[],[],[],[],[],[4],[4],[],[4,5,6,7],[4,5,6,7],[],[],[]])],[]⟩ ⟨aFc,aAc,zY,trivial⟩ Tryz.func53 fun z r _ h=>⟨0,.trans (by kernel_rfl) (aLA z.1 z.2.1 z.2.2.1 r h)⟩
theorem aEZ:FOk Tryz.prog 60 rtypesS:=fk (cx [] [] 26 []) ⟨[(4,(4,[.val 5 ((.int .i64)) false]))],[],[(6,[[],[0],[],[],[0,1,2,3],[0,1,2,3,4],[0,1,2,3],[0,1,2,3],[]])],[]⟩ trivial Tryz.func60 fun z r hl h=>(aLw z.1 z.2.1 hl).elim fun k hk=>⟨k,.trans (by kernel_rfl) (hk.trans h)⟩
theorem aCi:FOk Tryz.prog 68 r5inS:=fk (cx [] [] 15 []) A0 trivial Tryz.func68 fun z r _ h=>⟨0,.trans (by kernel_rfl) ((aMv z.1 z.2.1 z.2.2.1).trans h)⟩
theorem aMt:FOk Tryz.prog 67 r5listS:=fk (cx [(68,r5inS)] [] 25 []) ⟨[(4,(4,[.val 7 ((.int .i64)) false]))],[],[],[]⟩ ⟨aCi,trivial⟩ Tryz.func67 fun z r hl h=>(aMs z.1 z.2.1 z.2.2.1 hl).elim fun k hk=>⟨k,.trans (by kernel_rfl) (hk.trans h)⟩
theorem aFy:FOk Tryz.prog 69 r5typS:=fk (cx [(68,r5inS)] [] 21 [1]) A0 ⟨aCi,trivial⟩ Tryz.func69 fun z r _ h=>⟨0,.trans (by kernel_rfl) ((aMh z.1).trans h)⟩
theorem aMf:FOk Tryz.prog 66 r5typesS:=fk (cx [(69,r5typS)] [] 22 []) ⟨[(4,(4,[.val 5 ((.int .i64)) false]))],[],[],[]⟩ ⟨aFy,trivial⟩ Tryz.func66 fun z r hl h=>(aMe z.1 z.2.1 hl).elim fun k hk=>⟨k,.trans (by kernel_rfl) (hk.trans h)⟩
theorem aMz:FOk Tryz.prog 34 r5fitsS:=fk (cx [(66,r5typesS),(67,r5listS),(68,r5inS),(69,r5typS),(70,rinstrS)] [] 142 [1,4,6]) ⟨[(4,(5,[.val 3 ((.int .i64)) false])),(10,(10,[.val 5 ((.int .i64)) false])),(16,(4,[.val 7 ((.int .i64)) false]))],[],[],[]⟩ ⟨aMf,aMt,aCi,aFy,aLM,trivial⟩ Tryz.func34 fun z r hl h=>(aMy z.1 hl).elim fun k hk=>⟨k,.trans (by kernel_rfl) (hk.trans h)⟩
theorem aAm:FOk Tryz.prog 45 r5fieldsS:=fk (cx [(89,raboveS)] [20,31] 32 [2]) ⟨[(4,(3,[.val 6 (bL) true,.val 7 ((.int .i64)) false]))],[],[(6,[[],[0],[0],[0,1,2],[0,1,2,3],[0,1,2],[0,1,2],[0],[0],[0],[],[]])],[]⟩ ⟨aAc,trivial⟩ Tryz.func45 fun z r _ h=>(aMB z.1 z.2.1 r h).elim fun k hk=>⟨k,.trans (by kernel_rfl) hk⟩
theorem aCj:FOk Tryz.prog 79 r5goodS:=fk (cx [(130,rgoodS)] [] 21 [2]) ⟨[(2,(4,[.val 5 ((.int .i64)) false]))],[],[(4,[[],[0],[],[],[0,1,2,3],[0,1,2,3],[0,1,2,3],[],[]])],[]⟩ ⟨aFk,trivial⟩ Tryz.func79 fun z r hl h=>(aMw z.1 z.2.1 hl).elim fun k hk=>⟨k,.trans (by kernel_rfl) (hk.trans h)⟩
theorem aMD:FOk Tryz.prog 80 r5classS:=fk (cx [(45,r5fieldsS),(53,rsubS),(60,rtypesS),(79,r5goodS)] [] 118 [2,5,8,9]) ⟨[(10,(11,[.val 7 ((.int .i64)) false]))],[(5,(2,[.val 6 (aY) false])),(12,(9,[]))],[(12,[[],[],[0,1],[],[],[0,1,2,3,4],[0,1,2,3,4],[0,1,2,3,4],[]]),(14,[[],[],[0,1],[0,1],[0,1,2,3],[0,1],[0,1],[],[],[0,1,2,3,4,5,6,7,8],[]]),(15,[[],[],[],[],[],[],[],[5,6],[5,6],[5,6,7,8],[5,6,7,8],[5,6,7,8],[5,6,7,8],[],[],[]]),(18,[[],[],[0,1],[0,1,2],[0,1],[0,1],[],[],[0,1,2,3,4,5,6,7],[]]),(19,[[],[],[],[0,1,2],[0,1,2],[0,1,2],[],[],[],[],[],[9,10],[9,10],[],[]])],[]⟩ ⟨aAm,aCc,aEZ,aCj,trivial⟩ Tryz.func80 fun z r _ h=>(aMC z.1 z.2.1 r h).elim fun k hk=>⟨k,.trans (by kernel_rfl) hk⟩
theorem aMn:FOk Tryz.prog 131 r5namedS:=fk (cx [(45,r5fieldsS)] [] 105 [3,4,5]) ⟨[],[(4,(2,[.val 17 (.bool) false])),(7,(2,[.val 30 (.bool) false])),(10,(2,[.val 39 (.bool) false])),(13,(2,[.val 48 (.bool) false])),(16,(2,[.val 67 (.bool) false]))],[(15,[[],[],[0,1],[0,1],[0,1],[],[],[],[],[7,8],[7,8,9],[7,8,9],[7,8],[7,8],[],[],[]]),(22,[[],[],[0,1],[0,1],[0,1],[],[],[],[],[7,8],[7,8],[7,8,9,10],[7,8,9,10],[7,8],[7,8],[7,8],[7,8],[],[],[]])],[]⟩ ⟨aAm,trivial⟩ Tryz.func131 fun z r _ h=>⟨0,.trans (by kernel_rfl) (aMm z.1 z.2.1 z.2.2.1 r h)⟩
theorem aMp:FOk Tryz.prog 81 r5methodS:=fk (cx [(79,r5goodS),(130,rgoodS),(131,r5namedS)] [] 74 [2,3]) ⟨[(4,(4,[.val 5 ((.int .i64)) false]))],[(1,(2,[]))],[(6,[[],[0],[0,1],[0,1],[0,1,2,3],[0,1],[0,1],[],[]])],[]⟩ ⟨aCj,aFk,aMn,trivial⟩ Tryz.func81 fun z r _ h=>(aMo z.1 z.2.1 r h).elim fun k hk=>⟨k,.trans (by kernel_rfl) hk⟩
theorem aFB:FOk Tryz.prog 39 r5saneS:=fk (cx [(34,r5fitsS),(79,r5goodS),(80,r5classS),(81,r5methodS)] [] 111 [1]) ⟨[(5,(3,[.val 3 (.bool) false,.val 4 ((.int .i64)) false])),(9,(3,[.val 3 (.bool) false,.val 5 ((.int .i64)) false])),(13,(10,[.val 3 (.bool) false,.val 6 ((.int .i64)) false])),(20,(3,[.val 3 (.bool) false,.val 8 ((.int .i64)) false]))],[(4,(4,[.val 3 (.bool) false])),(8,(4,[.val 3 (.bool) false])),(18,(1,[.val 3 (.bool) false]))],[(11,[[],[0],[0],[0,1,2],[0],[0],[],[]])],[]⟩ ⟨aMz,aCj,aMD,aMp,trivial⟩ Tryz.func39 fun z r hl h=>(aMk z.1 hl).elim fun k hk=>⟨k,.trans (by kernel_rfl) (hk.trans h)⟩
theorem aQL:FOk Tryz.prog 87 cbelowS:=fk (cx [(107,clipIS),(135,kbelowS)] [18] 25 [2]) ⟨[(3,(5,[.val 5 (aY) true,.val 10 ((.int .i64)) false]))],[],[],[]⟩ ⟨aIN,aHh,trivial⟩ Tryz.func87 fun z r _ h=>(aQK z.1 z.2.1 r h).elim fun k hk=>⟨k,.trans (by kernel_rfl) hk⟩
theorem aIp:FOk Tryz.prog 88 cslotS:=fk (cx [] [] 41 [3]) A0 trivial Tryz.func88 fun z r _ h=>⟨0,.trans (by kernel_rfl) ((aIo z.1 z.2.1 z.2.2.1).trans h)⟩
theorem aIm:FOk Tryz.prog 44 ctargetsS:=fk (cx [(87,cbelowS),(88,cslotS)] [14,39,44] 45 [2,3]) ⟨[(7,(6,[.val 5 (aY) true,.val 26 ((.int .i64)) false]))],[],[],[]⟩ ⟨aQL,aIp,trivial⟩ Tryz.func44 fun z r _ h=>(aPR z.1 z.2.1 r h).elim fun k hk=>⟨k,.trans (by kernel_rfl) hk⟩
theorem aMF:FOk Tryz.prog 90 r5belowS:=fk (cx [(89,raboveS),(99,rinS)] [21,25] 26 [2]) ⟨[(3,(4,[.val 5 (aY) true,.val 6 ((.int .i64)) false]))],[],[],[]⟩ ⟨aAc,zY,trivial⟩ Tryz.func90 fun z r _ h=>(aME z.1 z.2.1 r h).elim fun k hk=>⟨k,.trans (by kernel_rfl) hk⟩
theorem aFA:FOk Tryz.prog 91 r5slotS:=fk (cx [] [] 41 [3]) A0 trivial Tryz.func91 fun z r _ h=>⟨0,.trans (by kernel_rfl) ((aMi z.1 z.2.1 z.2.2.1).trans h)⟩
theorem aL5:FOk Tryz.prog 46 r8targetsS:=fk (cx [(90,r5belowS),(91,r5slotS)] [14,44,48] 49 [2,3]) ⟨[(7,(5,[.val 5 (aY) true,.val 7 ((.int .i64)) false]))],[(2,(2,[.val 5 (aY) true]))],[(9,[[],[0],[0,1],[0],[0],[0,1,2,3,4],[0,1,2,3,4],[],[],[],[9],[10],[]])],[(9,[0,1,2,3,4,5,6,7,8,9,11,10,12])]⟩ ⟨aMF,aFA,trivial⟩ Tryz.func46 fun z r _ h=>(aL4 z.1 z.2.1 r h).elim fun k hk=>⟨k,.trans (by kernel_rfl) hk⟩
theorem aPk:FOk Tryz.prog 154 fenterS:=fk {cx [] [41] 47 [1002000001,1002000002,1002000003,1002000004,1002000006,1000000,44] with rows:=[44] } ⟨[],[],[(1,[[],[],[],[],[0,1,2,3],[0,1,2,3,4],[0,1,2,3,4],[0,1,2,3,4],[0,1,2,3,4],[0,1,2,3,4,5,6,7,8],[0,1,2,3,4,5,6,7,8,9],[0,1,2,3,4,5,6,7,8,9],[0,1,2,3,4,5,6,7,8,9],[0,1,2,3,4,5,6,7,8,9],[0,1,2,3,4,5,6,7,8,9,10,11,12,13],[0,1,2,3,4,5,6,7,8,9,10,11,12,13],[0,1,2,3,4,5,6,7,8,9,10,11,12,13],[0,1,2,3,4,5,6,7,8,9,10,11,12,13],[9],[9],[],[]])],[(1,[0,1,2,3,4,5,6,7,8,19,9,10,11,12,13,14,15,16,17,18,20,21])]⟩ trivial Tryz.func154 fun z r _ h=>⟨0,.trans (by kernel_rfl) h⟩
theorem aIL:FOk Tryz.prog 107 clipIOS:=fk {cx [] [] 9 [0,8] with rows:=[1,8] } A0 trivial Tryz.func107 fun z r _ h=>⟨0,.trans (by kernel_rfl) ((aQB z.1).trans h)⟩
theorem aO8:FOk Tryz.prog 155 fleaveS:=fk {cx [(1000000000106,sortIS),(1000000000107,clipIOS)] [50,63] 70 [1002000001,1002000002,1002000003,1002000004,1002000006,1000000,4,41,53,65,67] with rows:=[4,41,53,65,67],thaws:=[65] } ⟨[(2,(6,[.own 4 3 ((.int .i64)),.lnk 1002000003 4 (.bool),.lnk 1002000004 3 ((.int .i64))]))],[],[(0,[[],[],[],[],[0,1,2,3],[],[],[0,1,2,3,4,5,6],[0,1,2,3,4,5,6],[0,1,2,3,4,5,6],[0,1,2,3,4,5,6],[0,1,2,3,4,5,6,7,8,9,10],[0,1,2,3,4,5,6],[0,1,2,3,4,5,6],[]]),(9,[[],[0],[0],[0],[0],[0,1,2,3,4],[0,1,2,3,4],[0,1,2,3,4],[0],[],[],[]])],[]⟩ ⟨aEK,aIL,trivial⟩ Tryz.func155 fun z r _ h=>(aO7 z.1 z.2.1 r h).elim fun k hk=>⟨k,.trans (by kernel_rfl) hk⟩
theorem aPh:FOk Tryz.prog 109 ffromS:=fk {cx [(154,fenterS),(155,fleaveS)] [83] 169 [1002000001,1002000002,1002000003,1002000004,1002000006,1000000,11,4,87,134] with rows:=[4,11,87,134] } ⟨[(2,(17,[.own 4 188 (dM),.lnk 1002000001 3 ((.int .i64)),.lnk 1002000002 3 ((.int .i64)),.lnk 1002000003 4 (.bool),.lnk 1002000004 3 ((.int .i64)),.lnk 1002000006 26 (aY),.box 1000000 155 [(kE,false),(.any,false),(.any,false),(.any,false),(.any,false),((.int .i64),false),(.any,false)]])),(4,(9,[.own 4 188 (dM),.ptr 5 4 0 2,.lnk 1002000002 3 ((.int .i64))]))],[(7,(1,[.val 62 (.bool) false]))],[(4,[[],[],[],[],[0,1,2,3],[0,1,2,3],[0,1,2,3],[0,1,2,3],[0,1,2,3,4,5,6,7],[0,1,2,3,4,5,6,7],[0,1,2,3,4,5,6,7],[0,1,2,3,4,5,6,7],[0,1,2,3],[0,1,2,3],[0,1,2,3],[]]),(5,[[],[],[],[],[0,1,2,3],[0,1,2,3],[0,1,2,3],[0,1,2,3],[],[],[0,1,2,3,4,5,6,7,8,9],[0,1,2,3,4,5,6,7,8,9],[0,1,2,3,4,5,6,7,8,9],[0,1,2,3,4,5,6,7,8,9],[],[],[]]),(12,[[],[],[],[],[0,1,2,3],[0,1,2,3],[0,1,2,3],[0,1,2,3],[0,1,2,3,4,5,6,7],[0,1,2,3,4,5,6,7],[0,1,2,3,4,5,6,7],[0,1,2,3,4,5,6,7],[0,1,2,3,4,5,6,7,8,9,10,11],[0,1,2,3,4,5,6,7,8,9,10,11],[0,1,2,3,4,5,6,7,8,9,10,11],[0,1,2,3,4,5,6,7,8,9,10,11],[0,1,2,3,4,5,6,7],[0,1,2,3,4,5,6,7],[0,1,2,3,4,5,6,7,8,9,10,11,12,13,14,15,16,17],[0,1,2,3,4,5,6,7,8,9,10,11,12,13,14,15,16,17],[0,1,2,3,4,5,6,7,8,9,10,11,12,13,14,15,16,17],[0,1,2,3,4,5,6,7,8,9,10,11,12,13,14,15,16,17],[0,1,2,3,4,5,6,7,8,9,10,11,12,13,14,15,16,17,18,19,20,21],[0,1,2,3,4,5,6,7,8,9,10,11,12,13,14,15,16,17],[0,1,2,3,4,5,6,7,8,9,10,11,12,13,14,15,16,17],[0,1,2,3,4,5,6,7],[],[]]),(18,[[],[],[],[],[0,1,2,3],[0,1,2,3,4],[0,1,2,3,4],[0,1,2,3,4],[0,1,2,3,4],[0,1,2,3,4,5,6,7,8],[0,1,2,3,4],[0,1,2,3,4],[0,1,2,3,4,5,6,7,8,9,10,11],[0,1,2,3,4,5,6,7,8,9,10,11],[0,1,2,3,4,5,6,7,8,9,10,11],[0,1,2,3,4,5,6,7,8,9,10,11],[0,1,2,3,4,5,6,7,8,9,10,11,12,13,14,15],[0,1,2,3,4,5,6,7,8,9,10,11],[0,1,2,3,4,5,6,7,8,9,10,11],[0,1,2,3,4],[],[]])],[]⟩ ⟨aPk,aO8,trivial⟩ Tryz.func109 fun z r _ h=>(aPg z.1 z.2.1 r h).elim fun k hk=>⟨k,.trans (by kernel_rfl) hk⟩
theorem aQD:FOk Tryz.prog 110 clipIIOS:=fk {cx [] [] 9 [0,8] with rows:=[1,8] } A0 trivial Tryz.func110 fun z r _ h=>⟨0,.trans (by kernel_rfl) ((aQC z.1).trans h)⟩
theorem aLP:FOk Tryz.prog 57 ringsS:=fk {cx [(109,ffromS),(1000000000110,clipIIOS)] [] 39 [2,10,12,14,2016001,2016002,2016003,2016004,2016006,16,38] with rows:=[2,10,12,14,38],lnks:=[(155,[1,2,3,4,6])] } ⟨[(4,(5,[.val 19 ((.int .i64)) false,.lnk 2016001 3 ((.int .i64)),.lnk 2016002 3 ((.int .i64)),.lnk 2016003 4 (.bool),.lnk 2016004 3 ((.int .i64)),.lnk 2016006 26 (aY),.box 16 155 [(kE,false),(.any,false),(.any,false),(.any,false),(.any,false),((.int .i64),false),(.any,false)]]))],[],[(2,[[],[0],[0],[0,1,2],[0,1,2],[0,1,2,3,4],[0,1,2,3,4],[],[],[]])],[]⟩ ⟨aPh,aQD,trivial⟩ Tryz.func57 fun z r _ h=>(aLO z.1 r h).elim fun k hk=>⟨k,.trans (by kernel_rfl) hk⟩
theorem aMr:FOk Tryz.prog 97 r5localS:=fk (cx [] [] 26 [2,4]) ⟨[],[],[(1,[[],[0],[0],[],[0,1,2,3],[0,1,2,3],[],[]])],[]⟩ trivial Tryz.func97 fun z r _ h=>⟨0,.trans (by kernel_rfl) h⟩
theorem aLI:FOk Tryz.prog 129 rjoinS:=fk (cx [(53,rsubS),(89,raboveS),(99,rinS)] [] 55 [4,5,6]) ⟨[(9,(4,[.val 9 ((.int .i64)) false]))],[],[(7,[[],[0],[0],[],[0,1,2,3],[0,1,2,3,4],[0,1,2,3,4],[],[],[]])],[]⟩ ⟨aCc,aAc,zY,trivial⟩ Tryz.func129 fun z r _ h=>(aLH z.1 z.2.1 z.2.2.1 r h).elim fun k hk=>⟨k,.trans (by kernel_rfl) hk⟩
theorem aMc:FOk Tryz.prog 98 r8givesS:=fk (cx [] [] 10 [1]) A0 trivial Tryz.func98 fun z r _ h=>⟨0,.trans (by kernel_rfl) h⟩
theorem aMb:FOk Tryz.prog 51 r8ruleS:=fk (cx [(45,r5fieldsS),(91,r5slotS),(97,r5localS),(98,r8givesS)] [] 218 [3,5,8,9,10,11,12]) ⟨[],[],[(5,[[],[],[0,1],[]]),(7,[[],[],[0,1],[]]),(9,[[],[],[0,1],[],[],[0,1,2,3,4],[0,1,2,3,4],[],[],[8],[]]),(11,[[],[],[0,1],[],[],[0,1,2,3,4],[0,1,2,3,4],[],[],[],[]]),(17,[[],[],[0,1],[0,1],[2,3],[]]),(19,[[],[0],[],[0,1,2],[0,1,2],[3,4],[]]),(21,[[],[],[0,1],[]]),(23,[[],[],[0,1],[0,1],[2,3],[]]),(25,[[],[0],[],[0,1,2],[0,1,2],[3,4],[]]),(29,[[],[],[0,1],[0,1],[2,3],[]]),(31,[[],[],[0,1],[0,1,2],[0,1,2],[0,1],[0,1,2,3,4,5],[0,1,2,3,4,5],[0,1,2,3,4,5,6,7],[0,1,2,3,4,5,6,7],[0,1,2,3,4,5,6,7],[0,1],[6,7,8,9,10,11],[]]),(33,[[],[0],[0,1],[0,1],[0],[0,1,2,3,4],[0,1,2,3,4],[0],[0],[],[],[]]),(35,[[],[],[0,1],[0,1],[],[],[],[0,1,2,3,4,5,6],[]]),(39,[[],[],[0,1],[0,1],[2,3],[]]),(43,[[],[],[0,1],[0,1],[],[],[],[0,1,2,3,4,5,6],[0,1,2,3,4,5,6],[0,1,2,3,4,5,6,7,8],[0,1,2,3,4,5,6,7,8],[0,1,2,3,4,5,6],[0,1,2,3,4,5,6],[0,1,2,3,4,5,6],[],[]]),(46,[[],[],[0,1],[0,1],[0,1,2,3],[0,1],[0,1],[0,1],[0,1],[],[0,1,2,3,4,5,6,7,8,9],[0,1,2,3,4,5,6,7,8,9],[0,1,2,3,4,5,6,7,8,9,10,11],[0,1,2,3,4,5,6,7,8,9],[0,1,2,3,4,5,6,7,8,9],[],[],[]]),(48,[[],[0],[],[0,1,2],[0,1,2],[3,4],[]])],[(5,[1,2,0,3]),(7,[1,2,0,3]),(9,[0,1,2,3,4,5,6,7,9,8,10]),(17,[0,1,3,4,2,5]),(19,[0,1,2,4,5,3,6]),(21,[1,2,0,3]),(23,[0,1,3,4,2,5]),(25,[0,1,2,4,5,3,6]),(29,[0,1,3,4,2,5]),(35,[1,2,3,4,5,6,7,0,8]),(39,[0,1,3,4,2,5]),(48,[0,1,2,4,5,3,6])]⟩ ⟨aAm,aFA,aMr,aMc,trivial⟩ Tryz.func51 fun z r _ h=>⟨0,.trans (by kernel_rfl) h⟩
theorem aL8:FOk Tryz.prog 21 r8stepS:=fk (cx [(51,r8ruleS),(52,risrefS),(53,rsubS)] [65] 196 [4,11,15,18,19]) ⟨[(21,(9,[.val 17 ((.int .i64)) false]))],[(5,(2,[.val 12 (aY) true])),(7,(2,[.val 12 (aY) true])),(9,(2,[.val 12 (aY) true])),(11,(2,[])),(14,(3,[.val 13 (bL) false,.val 14 (bL) false])),(14,(1,[.val 104 (.bool) false])),(17,(2,[]))],[(11,[[],[],[],[],[],[],[],[4,5,6],[4,5,6],[4,5,6,7,8],[4,5,6],[4,5,6],[4,5,6],[4,5,6],[],[]]),(16,[[],[],[0,1],[0,1,2],[0,1],[2,3,4],[]]),(23,[[],[0],[0,1],[0],[],[],[0,1,2,3,4,5],[0,1,2,3,4,5,6],[0,1,2,3,4,5],[0,1,2,3,4,5],[0,1,2,3,4,5,6,7,8,9],[0,1,2,3,4,5,6,7,8,9,10],[6,7,8,9],[]])],[(16,[0,1,3,4,5,2,6]),(23,[0,1,2,3,4,5,9,10,11,12,6,7,8,13])]⟩ ⟨aMb,aFc,aCc,trivial⟩ Tryz.func21 fun z r _ h=>(aL7 z.1 z.2.1 z.2.2.1 z.2.2.2.1 r h).elim fun k hk=>⟨k,.trans (by kernel_rfl) hk⟩
theorem aMa:FOk Tryz.prog 78 r8shapesS:=fk {cx [(21,r8stepS),(60,rtypesS),(129,rjoinS)] [119] 139 [2,27,18] with rows:=[27] } ⟨[(7,(32,[.val 8 ((.int .i64)) false,.row 27 52 (sZ)])),(11,(26,[.val 9 (.bool) false,.val 10 ((.int .i64)) false,.row 27 52 (sZ)])),(18,(19,[.val 9 (.bool) false,.val 14 ((.int .i64)) false,.row 27 52 (sZ)])),(28,(6,[.val 16 (bL) true,.val 17 ((.int .i64)) false]))],[],[(14,[[],[0],[0,1],[0,1,2],[0,1,2,3],[0,1,2],[0,1,2],[0,1,2],[],[],[],[10],[10,11],[11,12],[12],[]]),(30,[[],[],[0,1],[0,1,2],[0,1],[0,1],[0,1],[0,1,2,3,4,5,6],[0,1],[0,1],[0,1,2,3,4,5,6,7,8,9],[0,1,2,3,4,5,6,7,8,9,10],[0,1,2,3,4,5,6,7,8,9],[0,1,2,3,4,5,6,7,8,9],[],[0,1,2,3,4,5,6,7,8,9,10,11,12,13,14],[]])],[(14,[0,1,2,3,4,5,6,7,8,9,10,12,14,11,13,15])]⟩ ⟨aL8,aEZ,aLI,trivial⟩ Tryz.func78 fun z r _ h=>(aL9 z.1 z.2.1 r h).elim fun k hk=>⟨k,.trans (by kernel_rfl) hk⟩
theorem aFv:FOk Tryz.prog 38 r8allS:=fk (cx [(78,r8shapesS)] [25] 30 [1]) ⟨[(3,(6,[.val 4 (nO) true,.val 5 ((.int .i64)) false]))],[],[],[]⟩ ⟨aMa,trivial⟩ Tryz.func38 fun z r _ h=>(aMd z.1 r h).elim fun k hk=>⟨k,.trans (by kernel_rfl) hk⟩
theorem aOK:FOk Tryz.prog 137 growTS:=fk {cx [] [] 27 [4,22,25,0,26] with rows:=[0,4,20,22,25,26],thaws:=[1000009,1000017,1000018] } A0 trivial Tryz.func137 fun z r _ h=>⟨0,.trans (by kernel_rfl) (aOJ z.1 z.2.1 r h)⟩
theorem aDE:FOk Tryz.prog 94 concatTS:=fk {cx [(137,growTS)] [31] 36 [24,6,33] with rows:=[6,33] } ⟨[(3,(6,[.val 3 ((.int .i64)) false,.val 11 ((.int .i64)) false])),(11,(4,[.own 6 39 (dM),.val 27 ((.int .i64)) false]))],[],[],[]⟩ ⟨aOK,trivial⟩ Tryz.func94 fun z r _ h=>(aP6 z.1 r h).elim fun k hk=>⟨k,.trans (by kernel_rfl) hk⟩
theorem aOx:FOk Tryz.prog 136 indexIS:=fk (cx [] [] 19 []) ⟨[(2,(5,[.val 8 ((.int .i64)) false]))],[],[],[]⟩ trivial Tryz.func136 fun z r hl h=>(aOw z.1 z.2.1 hl).elim fun k hk=>⟨k,.trans (by kernel_rfl) (hk.trans h)⟩
theorem aIt:FOk Tryz.prog 93 containsIS:=fk (cx [(136,indexIS)] [] 9 []) A0 ⟨aOx,trivial⟩ Tryz.func93 fun z r hl h=>⟨0,.trans (by kernel_rfl) ((aP1 z.1 z.2.1 hl).trans h)⟩
theorem aQv:FOk Tryz.prog 50 clipQS:=fk (cx [] [] 9 []) A0 trivial Tryz.func50 fun z r _ h=>⟨0,.trans (by kernel_rfl) ((aQu z.1).trans h)⟩
theorem aPP:FOk Tryz.prog 134 cupS:=fk (cx [] [] 19 [2]) A0 trivial Tryz.func134 fun z r _ h=>⟨0,.trans (by kernel_rfl) (aPO z.1 z.2.1 r h)⟩
theorem aIZ:FOk Tryz.prog 86 cfieldsS:=fk (cx [(94,concatTS),(134,cupS)] [] 26 [2]) ⟨[(4,(3,[.val 1 ((.int .i64)) false,.val 5 (bL) false]))],[],[],[]⟩ ⟨aDE,aPP,trivial⟩ Tryz.func86 fun z r _ h=>(aQI z.1 z.2.1 r h).elim fun k hk=>⟨k,.trans (by kernel_rfl) hk⟩
theorem aPU:FOk Tryz.prog 43 csizeS:=fk (cx [(86,cfieldsS)] [] 10 [2]) A0 ⟨aIZ,trivial⟩ Tryz.func43 fun z r _ h=>⟨0,.trans (by kernel_rfl) (aPT z.1 z.2.1 r h)⟩
theorem aQp:FOk Tryz.prog 140 clocalS:=fk (cx [] [] 40 [2,4]) A0 trivial Tryz.func140 fun z r _ h=>⟨0,.trans (by kernel_rfl) (aQo z.1 z.2.1 r h)⟩
theorem aNk:FOk Tryz.prog 184 numIsS:=fk (cx [] [] 9 []) A0 trivial Tryz.func184 fun z r _ h=>⟨0,.trans (by kernel_rfl) ((aNj z.1).trans h)⟩
theorem aO1:FOk Tryz.prog 182 fnumberS:=fk (cx [] [] 2 [0]) A0 trivial Tryz.func182 fun z r _ h=>⟨0,.trans (by kernel_rfl) h⟩
theorem aPo:FOk Tryz.prog 183 farrayS:=fk (cx [] [] 2 [0]) A0 trivial Tryz.func183 fun z r _ h=>⟨0,.trans (by kernel_rfl) h⟩
theorem aO0:FOk Tryz.prog 141 fobjectS:=fk (cx [] [] 5 [2]) A0 trivial Tryz.func141 fun z r _ h=>⟨0,.trans (by kernel_rfl) h⟩
theorem aOV:FOk Tryz.prog 181 fplain1S:=fk (cx [] [] 4 []) A0 trivial Tryz.func181 fun z r _ h=>⟨0,.trans (by kernel_rfl) h⟩
theorem aOZ:FOk Tryz.prog 139 fof1S:=fk (cx [] [] 5 [1]) A0 trivial Tryz.func139 fun z r _ h=>⟨0,.trans (by kernel_rfl) h⟩
theorem aPn:FOk Tryz.prog 142 fcalledS:=fk (cx [(94,concatTS)] [] 24 [2,4,5]) A0 ⟨aDE,trivial⟩ Tryz.func142 fun z r _ h=>⟨0,.trans (by kernel_rfl) (aPm z.1 z.2.1 r h)⟩
theorem aOU:FOk Tryz.prog 138 fplainS:=fk (cx [(181,fplain1S),(182,fnumberS),(183,farrayS),(184,numIsS)] [] 118 [2,5]) A0 ⟨aOV,aO1,aPo,aNk,trivial⟩ Tryz.func138 fun z r _ h=>⟨0,.trans (by kernel_rfl) ((aOT z.1).trans h)⟩
theorem aOY:FOk Tryz.prog 95 fofS:=fk (cx [(86,cfieldsS),(88,cslotS),(138,fplainS),(139,fof1S),(140,clocalS),(141,fobjectS),(142,fcalledS)] [] 163 [3,4,6,7,8]) ⟨[],[],[(14,[[],[0],[0],[0],[],[0,1,2,3,4],[0,1,2,3,4,5],[0,1,2,3,4,5,6],[0,1,2,3,4,5,6],[5],[0,1,2,3,4,5,6,7,8,9],[0,1,2,3,4,5,6,7,8,9],[5],[5],[],[],[]]),(16,[[],[],[],[0,1,2],[0,1,2,3],[0,1,2,3],[],[0,1,2,3,4,5,6],[0,1,2,3,4,5,6],[],[],[],[],[]]),(25,[[],[],[0,1],[],[],[0,1,2,3,4],[0,1,2,3,4,5],[0,1,2,3,4,5],[0,1,2,3,4,5],[0,1,2,3,4],[],[]]),(27,[[],[0],[],[0,1,2],[0,1,2,3],[0,1,2,3],[3],[],[],[]])],[]⟩ ⟨aIZ,aIp,aOU,aOZ,aQp,aO0,aPn,trivial⟩ Tryz.func95 fun z r _ h=>⟨0,.trans (by kernel_rfl) (aOW z.1 z.2.1 z.2.2.1 r h)⟩
theorem aPj:FOk Tryz.prog 96 ffitsS:=fk (cx [(143,kisrefS),(144,ksubS)] [] 33 [4,6,7]) A0 ⟨aHe,aOc,trivial⟩ Tryz.func96 fun z r _ h=>⟨0,.trans (by kernel_rfl) ((aPi z.1 z.2.1 z.2.2.1 z.2.2.2.1).trans h)⟩
theorem aO3:FOk Tryz.prog 92 fnextsS:=fk (cx [] [] 24 [2]) A0 trivial Tryz.func92 fun z r _ h=>⟨0,.trans (by kernel_rfl) ((aO2 z.1 z.2.1).trans h)⟩
theorem aHE:FOk Tryz.prog 49 fstepS:=fk (cx [(92,fnextsS),(93,containsIS),(94,concatTS),(95,fofS),(96,ffitsS)] [] 130 [4,11,12,15]) ⟨[(16,(5,[.val 9 (aY) false,.val 104 ((.int .i64)) false]))],[],[(18,[[],[0],[0],[0,1,2],[0,1,2,3],[0,1,2,3,4],[0,1,2,3],[0,1,2],[0,1,2],[0,1,2,3,4,5,6,7,8],[],[]]),(21,[[],[0],[],[0,1,2],[0,1,2],[],[],[0,1,2,3,4,5,6],[7],[],[]])],[(21,[0,1,2,3,4,5,6,8,7,9,10])]⟩ ⟨aO3,aIt,aDE,aOY,aPj,trivial⟩ Tryz.func49 fun z r _ h=>(aOO z.1 z.2.1 z.2.2.1 z.2.2.2.1 r h).elim fun k hk=>⟨k,.trans (by kernel_rfl) hk⟩
theorem aPL:FOk Tryz.prog 112 cyc1S:=fk (cx [(93,containsIS)] [] 7 []) A0 ⟨aIt,trivial⟩ Tryz.func112 fun z r hl h=>⟨0,.trans (by kernel_rfl) ((aPK z.1 z.2.1 hl).trans h)⟩
theorem aOB:FOk Tryz.prog 85 indexCycS:=fk (cx [(112,cyc1S)] [] 19 []) ⟨[(2,(5,[.val 8 ((.int .i64)) false]))],[],[],[]⟩ ⟨aPL,trivial⟩ Tryz.func85 fun z r hl h=>(aOA z.1 z.2.1 hl).elim fun k hk=>⟨k,.trans (by kernel_rfl) (hk.trans h)⟩
theorem aP4:FOk Tryz.prog 41 containsCycS:=fk (cx [(114000085,indexCycS)] [] 9 []) A0 ⟨aOB,trivial⟩ Tryz.func41 fun z r hl h=>⟨0,.trans (by kernel_rfl) ((aP3 z.1 z.2.1 hl).trans h)⟩
theorem aPJ:FOk Tryz.prog 59 cyclicS:=fk {cx [(114000041,containsCycS)] [] 28 [3] with thaws:=[1000003] } ⟨[(2,(6,[.val 9 ((.int .i64)) false]))],[],[],[]⟩ ⟨aP4,trivial⟩ Tryz.func59 fun z r _ h=>(aPI z.1 z.2.1 r h).elim fun k hk=>⟨k,.trans (by kernel_rfl) hk⟩
theorem aNt:FOk Tryz.prog 132 mul64S:=fk (cx [] [] 51 []) A0 trivial Tryz.func132 fun z r _ h=>⟨0,.trans (by kernel_rfl) (aNs z.1 z.2.1 r h)⟩
theorem aCZ:FOk Tryz.prog 82 lofS:=fk (cx [] [] 11 [2]) A0 trivial Tryz.func82 fun z r _ h=>⟨0,.trans (by kernel_rfl) ((aNZ z.1).trans h)⟩
theorem aNT:FOk Tryz.prog 133 lsizeS:=fk (cx [] [] 10 []) A0 trivial Tryz.func133 fun z r _ h=>⟨0,.trans (by kernel_rfl) ((aNS z.1).trans h)⟩
theorem aNV:FOk Tryz.prog 83 lplusS:=fk (cx [(82,lofS)] [] 20 [2,3,4]) A0 ⟨aCZ,trivial⟩ Tryz.func83 fun z r _ h=>⟨0,.trans (by kernel_rfl) (aNU z.1 z.2.1 r h)⟩
theorem aNR:FOk Tryz.prog 84 ltimesS:=fk (cx [(82,lofS),(132,mul64S),(133,lsizeS)] [] 39 [2,3,4]) ⟨[],[],[(3,[[],[],[],[0,1,2],[0,1,2],[],[],[],[],[8],[9],[]])],[(3,[0,1,2,3,4,5,6,7,8,10,9,11])]⟩ ⟨aCZ,aNt,aNT,trivial⟩ Tryz.func84 fun z r _ h=>⟨0,.trans (by kernel_rfl) (aNQ z.1 z.2.1 r h)⟩
theorem aN6:FOk Tryz.prog 40 lholdsS:=fk (cx [(82,lofS),(83,lplusS),(84,ltimesS)] [] 43 [2,6]) ⟨[(5,(4,[.val 19 ((.int .i64)) false,.box 6 130 [((.int .i64),false),(.bool,false)]]))],[],[(7,[[],[0],[0],[0,1,2],[0,1,2,3],[0,1,2],[0,1,2],[0],[0],[],[]])],[]⟩ ⟨aCZ,aNV,aNR,trivial⟩ Tryz.func40 fun z r _ h=>(aN5 z.1 z.2.1 r h).elim fun k hk=>⟨k,.trans (by kernel_rfl) hk⟩
theorem aFU:FOk Tryz.prog 48 pshapeS:=fk (cx [] [] 28 [6]) A0 trivial Tryz.func48 fun z r _ h=>⟨0,.trans (by kernel_rfl) (aMJ z.1 z.2.1 z.2.2.1 r h)⟩
theorem aAB:FOk Tryz.prog 17 pcostS:=fk (cx [(43,csizeS),(44,ctargetsS)] [] 50 [2,3]) ⟨[(8,(5,[.val 5 ((.int .i64)) false,.val 27 ((.int .i64)) false]))],[],[],[]⟩ ⟨aPU,aIm,trivial⟩ Tryz.func17 fun z r _ h=>(aM0 z.1 z.2.1 r h).elim fun k hk=>⟨k,.trans (by kernel_rfl) hk⟩
theorem aMM:FOk Tryz.prog 47 prowS:=fk {cx [] [] 33 [2008000,8,11,2009000,9] with rows:=[11],thaws:=[32],lnks:=[(49,[0])] } A0 trivial Tryz.func47 fun z r _ h=>⟨0,.trans (by kernel_rfl) (aML z.1 z.2.1 z.2.2.1 z.2.2.2.1 r h)⟩
theorem aFW:FOk Tryz.prog 19 prulesS:=fk (cx [(17,pcostS),(47,prowS),(48,pshapeS),(49,fstepS),(50,clipQS)] [81,94] 110 [3,10,11]) ⟨[(6,(14,[.val 8 (qP) true,.val 54 ((.int .i64)) false])),(15,(4,[.val 8 (qP) true,.val 90 ((.int .i64)) false]))],[(12,(2,[.val 8 (qP) true]))],[],[]⟩ ⟨aAB,aMM,aFU,aHE,aQv,trivial⟩ Tryz.func19 fun z r _ h=>(aMK z.1 z.2.1 z.2.2.1 r h).elim fun k hk=>⟨k,.trans (by kernel_rfl) hk⟩
theorem aMT:FOk Tryz.prog 42 pnegS:=fk (cx [] [] 5 []) A0 trivial Tryz.func42 fun z r _ h=>⟨0,.trans (by kernel_rfl) h⟩
theorem aOt:FOk Tryz.prog 85 indexNegS:=fk (cx [(42,pnegS)] [] 19 []) ⟨[(2,(5,[.val 8 ((.int .i64)) false]))],[],[],[]⟩ ⟨aMT,trivial⟩ Tryz.func85 fun z r hl h=>(aOs z.1 z.2.1 hl).elim fun k hk=>⟨k,.trans (by kernel_rfl) (hk.trans h)⟩
theorem aPZ:FOk Tryz.prog 41 containsNegS:=fk (cx [(44000085,indexNegS)] [] 9 []) A0 ⟨aOt,trivial⟩ Tryz.func41 fun z r hl h=>⟨0,.trans (by kernel_rfl) ((aPY z.1 z.2.1 hl).trans h)⟩
theorem aM2:FOk Tryz.prog 15 pcheckS:=fk (cx [(19,prulesS),(40,lholdsS),(44000041,containsNegS)] [] 49 [2,7,9]) ⟨[(2,(12,[.val 15 ((.int .i64)) false])),(5,(6,[.val 25 ((.int .i64)) false]))],[],[],[]⟩ ⟨aFW,aN6,aPZ,trivial⟩ Tryz.func15 fun z r _ h=>(aM1 z.1 z.2.1 r h).elim fun k hk=>⟨k,.trans (by kernel_rfl) hk⟩
theorem aFN:FOk Tryz.prog 18 r14costS:=fk (cx [(45,r5fieldsS),(46,r8targetsS)] [] 53 [2,3]) ⟨[(8,(4,[.val 5 ((.int .i64)) false,.val 7 ((.int .i64)) false]))],[],[(10,[[],[],[0,1],[0,1,2],[0,1],[0,1],[],[],[],[0,1,2,3,4,5,6,7,8],[]]),(11,[[],[],[0,1],[0,1,2],[0,1],[0,1],[],[],[],[]])],[]⟩ ⟨aAm,aL5,trivial⟩ Tryz.func18 fun z r _ h=>(aMG z.1 z.2.1 r h).elim fun k hk=>⟨k,.trans (by kernel_rfl) hk⟩
theorem aQx:FOk Tryz.prog 105 clipMOS:=fk {cx [] [] 9 [0,8] with rows:=[1,8] } A0 trivial Tryz.func105 fun z r _ h=>⟨0,.trans (by kernel_rfl) ((aQw z.1).trans h)⟩
theorem aOF:FOk Tryz.prog 55 icopyHS:=fk {cx [(100,anTS),(101,anJS),(102,anIS),(103,anXS),(104,clipCS),(1000000000105,clipMOS)] [30,68] 83 [1,2002003,2,2003003,3,5,7,71,79] with rows:=[71],thaws:=[3000082],lnks:=[(28,[3])] } ⟨[(3,(4,[.val 25 ((.int .i64)) false,.box 3 28 [(kD,true),(bL,false),(iN,false),(.any,false),(aY,false),((.int .i64),false),((.int .i64),false)]])),(8,(5,[.val 47 ((.int .i64)) false,.lnk 2003003 42 (gM)]))],[],[(1,[[],[],[],[0,1,2],[0,1,2],[],[0,1,2,3,4,5],[0,1,2,3,4,5],[],[0,1,2,3,4,5,6,7,8],[0,1,2,3,4,5,6,7,8],[0,1,2,3,4,5,6,7,8,9,10],[0,1,2,3,4,5,6,7,8,9,10],[],[0,1,2,3,4,5,6,7,8,9,10,11,12,13],[]]),(5,[[],[],[0,1],[0,1],[0,1,2,3],[0,1,2,3],[0,1,2,3],[0,1,2,3,4,5,6],[0,1,2,3,4,5,6],[0,1,2,3],[0,1],[0,1],[],[],[]]),(10,[[],[],[],[0,1,2],[0,1,2],[],[0,1,2,3,4,5],[0,1,2,3,4,5],[],[0,1,2,3,4,5,6,7,8],[0,1,2,3,4,5,6,7,8],[],[5,8,11],[],[],[],[],[],[],[]]),(13,[[],[],[],[0,1,2],[0,1,2],[],[5],[],[],[]])],[]⟩ ⟨aQ8,aRa,aRb,aQ7,aQF,aQx,trivial⟩ Tryz.func55 fun z r _ h=>(aOE z.1 r h).elim fun k hk=>⟨k,.trans (by kernel_rfl) hk⟩
theorem aQb:FOk Tryz.prog 56 cofLS:=fk {cx [(44,ctargetsS),(1000000000106,sortIS),(1000000000107,clipIOS),(1000000000108,compactIS)] [28] 39 [2,4,5,7,32,37,38] with rows:=[4,5,32,37] } ⟨[(5,(4,[.own 5 3 ((.int .i64)),.val 24 ((.int .i64)) false]))],[],[],[]⟩ ⟨aIm,aEK,aIL,aP9,trivial⟩ Tryz.func56 fun z r _ h=>(aQa z.1 z.2.1 r h).elim fun k hk=>⟨k,.trans (by kernel_rfl) hk⟩
theorem aNN:FOk Tryz.prog 111 maxL15S:=fk (cx [] [] 25 []) ⟨[(5,(3,[.val 3 ((.int .i64)) false,.val 4 ((.int .i64)) false]))],[],[],[]⟩ trivial Tryz.func111 fun z r _ h=>(aNM z.1 r h).elim fun k hk=>⟨k,.trans (by kernel_rfl) hk⟩
theorem aMV:FOk Tryz.prog 58 pleastS:=fk {cx [(17,pcostS),(48,pshapeS),(49,fstepS),(2000000000111,maxL15S)] [] 93 [3,6,28,12,13] with rows:=[6,28],thaws:=[4000089] } ⟨[(4,(19,[.val 32 ((.int .i64)) false,.row 28 3 ((.int .i64))])),(7,(13,[.val 10 (.bool) false,.val 36 ((.int .i64)) false,.row 28 3 ((.int .i64))])),(13,(6,[.val 10 (.bool) false,.val 60 ((.int .i64)) false,.row 28 3 ((.int .i64))]))],[],[(15,[[],[0],[],[0,1,2],[0,1,2,3],[0,1,2],[0,1,2],[],[]])],[]⟩ ⟨aAB,aFU,aHE,aNN,trivial⟩ Tryz.func58 fun z r _ h=>(aMU z.1 z.2.1 z.2.2.1 r h).elim fun k hk=>⟨k,.trans (by kernel_rfl) hk⟩
theorem aMY:FOk Tryz.prog 23 pfillS:=fk {cx [(55,icopyHS),(57,ringsS),(59,cyclicS),(2000000000056,cofLS),(2000000000058,pleastS)] [25] 106 [2,4,18,2002003,28,54] with thaws:=[28,105,1000063,2000004,2000059,2000102,3000026,3000051],lnks:=[(28,[3])] } ⟨[(4,(5,[.val 6 (kE) true,.val 22 ((.int .i64)) false,.lnk 2002003 42 (gM)])),(10,(20,[.val 40 ((.int .i64)) false,.lnk 2002003 42 (gM)])),(13,(7,[.val 46 ((.int .i64)) false,.lnk 2002003 42 (gM)])),(21,(8,[.val 69 ((.int .i64)) false,.lnk 2002003 42 (gM)]))],[(23,(3,[.lnk 2002003 42 (gM)]))],[(25,[[],[],[0,1],[0,1,2],[0,1,2],[0,1,2],[],[],[]])],[]⟩ ⟨aOF,aLP,aPJ,aQb,aMV,trivial⟩ Tryz.func23 fun z r _ h=>(aMX z.1 z.2.1 r h).elim fun k hk=>⟨k,.trans (by kernel_rfl) hk⟩
theorem aLg:FOk Tryz.prog 37 sane15S:=fk (cx [(39,r5saneS)] [] 24 [1]) A0 ⟨aFB,trivial⟩ Tryz.func37 fun z r _ h=>⟨0,.trans (by kernel_rfl) ((aLf z.1).trans h)⟩
theorem aJM:FOk Tryz.prog 13 typed15S:=fk (cx [(37,sane15S),(38,r8allS)] [] 17 [1]) A0 ⟨aLg,aFv,trivial⟩ Tryz.func13 fun z r _ h=>⟨0,.trans (by kernel_rfl) h⟩
theorem aQY:FOk Tryz.prog 14 awake15S:=fk (cx [(15,pcheckS),(17,pcostS),(18,r14costS),(19,prulesS),(23,pfillS),(38,r8allS),(39,r5saneS)] [] 121 [1,6]) ⟨[],[],[(6,[[],[],[],[],[],[],[],[],[],[],[],[],[],[],[],[],[],[],[],[],[],[],[],[],[],[],[],[],[],[],[],[],[],[],[],[],[],[],[],[],[],[],[],[42],[42],[42],[42],[42],[42],[42],[],[],[],[],[],[54],[],[],[],[],[],[],[],[],[],[],[],[66],[66],[66],[66],[66],[66],[66],[],[],[],[]])],[]⟩ ⟨aM2,aAB,aFN,aFW,aMY,aFv,aFB,trivial⟩ Tryz.func14 fun z r _ h=>⟨0,.trans (by kernel_rfl) h⟩
theorem aMR (hl:∀z,vX Tryz.prog aAs z→∃k,aCr k z.1=some (true,())):FOk Tryz.prog 4 potCostsS:=fk (cx [(13,typed15S),(14,awake15S),(17,pcostS),(18,r14costS)] [] 57 [1]) ⟨[(5,(7,[.val 5 ((.int .i64)) false])),(8,(4,[.val 6 ((.int .i64)) false]))],[],[(10,[[],[0],[0],[0,1,2],[0],[0],[0],[0,1,2,3,4,5,6],[0],[0],[],[0,1,2,3,4,5,6,7,8,9,10],[0,1,2,3,4,5,6,7,8,9,10,11],[0,1,2,3,4,5,6,7,8,9,10,11],[0,1,2,3,4,5,6,7,8,9,10,11,12,13],[0,1,2,3,4,5,6,7,8,9,10,11],[0,1,2,3,4,5,6,7,8,9,10,11],[0,1,2,3,4,5,6,7,8,9,10,11],[0,1,2,3,4,5,6,7,8,9,10,11,12,13,14,15,16,17],[0,1,2,3,4,5,6,7,8,9,10,11],[0,1,2,3,4,5,6,7,8,9,10,11],[],[]])],[]⟩ ⟨aJM,aQY,aAB,aFN,trivial⟩ Tryz.func4 fun z r _ h=>by
 by_cases hw:vX Tryz.prog aAs z
 ·obtain⟨k,hk⟩:=hl z hw
  exact⟨k,.trans (by kernel_rfl) (hk.trans ((if_pos hw).symm.trans h))⟩
 ·exact absurd ((if_neg hw).symm.trans h) (by intro h;cases h)
end
end Go.Pli
