import Derived.Test.YtcofionghgmldaaGreatPliLaw
import Derived.Test.YtcofionghgmldaaGreatPMSort
import Derived.Test.YtcofionghgmldaaGreatPliReach
import Derived.Test.YtcofionghgmldaaGreatPliLib13
import Derived.Test.YtcofionghgmldaaGreatPMKit
import Derived.Test.YtcofionghgmldaaGreatPMSaid
import Derived.Test.YtcofionghgmldaaGreatProg
import Derived.KernelRfl
namespace Go.Pli
open Go Go.PM
open Go.Proofs
abbrev dS:Ty:= .pair (.int .i64) (.pair (.int .i64) .unit)
abbrev bV:Ty:= .sl 39 dS
abbrev jI:Ty:= .sl 21 (.int .i32)
abbrev aZ:Ty:= .sl 3 (.int .i64)
abbrev mD:Ty:= .pair (.int .i64) dS
abbrev lC:Ty:= .sl 45 mD
abbrev jH:Ty:= .sl 26 aZ
abbrev uL:Ty:= .pair .bool (.pair bV .unit)
abbrev aCv:Ty:= .sl 52 uL
abbrev oR:Ty:= .sl 53 aCv
abbrev aAt:Ty:= .pair aZ (.pair (.int .i64) .unit)
abbrev rW:Ty:= .sl 49 aAt
abbrev aFc:Ty:= .pair (.int .i64) (.pair bV (.pair aZ .unit))
abbrev lD:Ty:= .sl 106 aFc
abbrev iC:Ty:= .pair bV (.pair bV (.pair dS (.pair lC (.pair (.int .i64) (.pair (.int .i64) (.pair aZ .unit))))))
abbrev aFd:Ty:= .sl 42 iC
abbrev cZ:Ty:= .pair lD (.pair bV (.pair jI (.pair aFd (.pair aZ dS))))
abbrev aCw:Ty:= .sl 4 .bool
abbrev aFf:Ty:= .sl 66 aCw
abbrev aFe:Ty:= .sl 23 bV
abbrev aLc:Ty:= .pair lD (.pair bV (.pair jI (.pair (.osl 42 iC) (.pair aZ dS))))
abbrev aLd:Ty:= .sl 188 dS
def A0:Ann:=⟨[],[],[],[]⟩
def TY:List (TypeId×Ty):=[(3,(.int .i64)),(4,.bool),(22,lD),(23,bV),(24,jI),(25,aFd),(26,aZ),(28,cZ),(29,oR),(39,dS),(40,lC),(42,iC),(45,mD),(46,rW),(49,aAt),(52,uL),(53,aCv),(62,aFf),(64,jH),(66,aCw),(106,aFc),(130,(.pair (.int .i64) (.pair .bool .unit))),(141,(.pair bV (.pair bV .unit))),(155,(.pair jH (.pair aZ (.pair aZ (.pair aCw (.pair aZ (.pair (.int .i64) (.pair jH .unit)))))))),(172,(.int .u64)),(178,aFe),(188,dS),(189,aLd)]
theorem aS4:aCD Tryz.prog TY=true:=by kernel_rfl
def cx (fns:List (FuncId×FSpec)) (tips:List Nat) (n:Nat) (bxs:List Nat):Ctx:={ty:=TY,fns:=fns,tips:=tips,n:=n,bxs:=bxs,ptrs:=[] }
theorem fk (G:Ctx) {f:FuncId} {fn:Func} (A:Ann) {S:FSpec} (h3:FnsOk Tryz.prog G.fns) (hf:Tryz.prog.funcs[f]? =some fn) (h:∀z r,aCn S.ps z→S.run z=some r→∃k,aBK G A k fn S.ps S.rs z=some r) (h1:G.ty=TY:=by rfl) (h2:G.ptrs.all (aDb Tryz.prog)=true:=by kernel_rfl) (hb:fn.body.isSome=true:=by kernel_rfl) (hn:(fn.name=="runtime.NumGoroutine")=false:=by kernel_rfl) (h4:G.sets.all (aCO Tryz.prog)=true:=by rfl):FOk Tryz.prog f S:=fok (aRC (by rw[h1];exact aS4) h2 h3 h4) hf hb hn h
noncomputable section
def rinS:FSpec:=⟨[.val (aZ),.val ((.int .i64))],[.val (.bool)],fun z=>rin z.1 z.2.1⟩
def rargsS:FSpec:=⟨[.val ((.int .i64))],[.val ((.int .i64))],fun z=>some (qP z.1,())⟩
def rinstrS:FSpec:=⟨[.val (mD)],[.val (.bool)],fun z=>some (yG z.1,())⟩
def clipCS:FSpec:=⟨[.val (lD)],[.val (lD)],fun z=>some (idL z.1,())⟩
def clipTS:FSpec:=⟨[.val (bV)],[.val (bV)],fun z=>some (idL z.1,())⟩
def clipIS:FSpec:=⟨[.val (aZ)],[.val (aZ)],fun z=>some (idL z.1,())⟩
def clipXS:FSpec:=⟨[.val (lC)],[.val (lC)],fun z=>some (idL z.1,())⟩
def clipJS:FSpec:=⟨[.val (jI)],[.val (jI)],fun z=>some (idL z.1,())⟩
def cloneTS:FSpec:=⟨[.val (bV)],[.val (bV)],fun z=>aBY z.1⟩
def cloneJS:FSpec:=⟨[.val (jI)],[.val (jI)],fun z=>aBZ z.1⟩
def cloneIS:FSpec:=⟨[.val (aZ)],[.val (aZ)],fun z=>aB0 z.1⟩
def cloneXS:FSpec:=⟨[.val (lC)],[.val (lC)],fun z=>aBX z.1⟩
def anTS:FSpec:=⟨[.val (bV)],[.val (bV)],fun z=>tY z.1⟩
def anJS:FSpec:=⟨[.val (jI)],[.val (jI)],fun z=>aCf z.1⟩
def anIS:FSpec:=⟨[.val (aZ)],[.val (aZ)],fun z=>xF z.1⟩
def anXS:FSpec:=⟨[.val (lC)],[.val (lC)],fun z=>aCd z.1⟩
def kisrefS:FSpec:=⟨[.val (dS)],[.val (.bool)],fun z=>some (iR z.1,())⟩
def kupS:FSpec:=⟨[.val (lD),.val ((.int .i64))],[.val ((.int .i64))],fun z=>some (kup z.1 z.2.1,())⟩
def kbelowS:FSpec:=⟨[.val (lD),.val ((.int .i64)),.val ((.int .i64))],[.val (.bool)],fun z=>some (dI z.1 z.2.1 z.2.2.1,())⟩
def ksubS:FSpec:=⟨[.val (lD),.val (dS),.val (dS)],[.val (.bool)],fun z=>some (cK z.1 z.2.1 z.2.2.1,())⟩
def raboveS:FSpec:=⟨[.val (lD),.val ((.int .i64))],[.val (aZ)],fun z=>jN z.1 z.2.1⟩
def risrefS:FSpec:=⟨[.val (dS)],[.val (.bool)],fun z=>some (sL z.1,())⟩
def rgoodS:FSpec:=⟨[.val (dS),.val ((.int .i64))],[.val (.bool)],fun z=>some (sN z.1 z.2.1,())⟩
def rsubS:FSpec:=⟨[.val (lD),.val (dS),.val (dS)],[.val (.bool)],fun z=>mH z.1 z.2.1 z.2.2.1⟩
def rtypesS:FSpec:=⟨[.val (bV),.val (bV)],[.val (.bool)],fun z=>some (uW z.1 z.2.1,())⟩
def r5inS:FSpec:=⟨[.val ((.int .i64)),.val ((.int .i64)),.val ((.int .i64))],[.val (.bool)],fun z=>some (iO z.1 z.2.1 z.2.2.1,())⟩
def r5listS:FSpec:=⟨[.val (aZ),.val ((.int .i64)),.val ((.int .i64))],[.val (.bool)],fun z=>some (pB z.1 z.2.1 z.2.2.1,())⟩
def r5typS:FSpec:=⟨[.val (dS)],[.val (.bool)],fun z=>some (qQ z.1,())⟩
def r5typesS:FSpec:=⟨[.val (bV),.val ((.int .i64))],[.val (.bool)],fun z=>some (mI z.1 z.2.1,())⟩
def r5fitsS:FSpec:=⟨[.val (cZ)],[.val (.bool)],fun z=>some (sQ z.1,())⟩
def r5fieldsS:FSpec:=⟨[.val (cZ),.val ((.int .i64))],[.tip (bV)],fun z=>iZ z.1 z.2.1⟩
def r5goodS:FSpec:=⟨[.val (cZ),.val (bV)],[.val (.bool)],fun z=>some (nN z.1 z.2.1,())⟩
def r5classS:FSpec:=⟨[.val (cZ),.val ((.int .i64))],[.val (.bool)],fun z=>vJ z.1 z.2.1⟩
def r5namedS:FSpec:=⟨[.val (cZ),.val (iC),.val (mD)],[.val (.bool)],fun z=>vH z.1 z.2.1 z.2.2.1⟩
def r5methodS:FSpec:=⟨[.val (cZ),.val (iC)],[.val (.bool)],fun z=>vI z.1 z.2.1⟩
def r5saneS:FSpec:=⟨[.val (cZ)],[.val ((.int .i64))],fun z=>some (sP z.1,())⟩
def sortIS:FSpec:=⟨[.own 3 ((.int .i64))],[],fun z=>some (xY z.1)⟩
def compactIS:FSpec:=⟨[.take 3 ((.int .i64))],[.own 3 ((.int .i64))],fun z=>some (dO z.1,())⟩
def cbelowS:FSpec:=⟨[.val (cZ),.val ((.int .i64))],[.val (aZ)],fun z=>wY z.1 z.2.1⟩
def cslotS:FSpec:=⟨[.val (cZ),.val ((.int .i64)),.val ((.int .i64))],[.val ((.int .i64)),.val (.bool)],fun z=>some (dR z.1 z.2.1 z.2.2.1)⟩
def ctargetsS:FSpec:=⟨[.val (cZ),.val (mD)],[.tip (aZ)],fun z=>pW z.1 z.2.1⟩
def r5belowS:FSpec:=⟨[.val (cZ),.val ((.int .i64))],[.tip (aZ)],fun z=>vK z.1 z.2.1⟩
def r5slotS:FSpec:=⟨[.val (cZ),.val ((.int .i64)),.val ((.int .i64))],[.val ((.int .i64)),.val (.bool)],fun z=>some (yQ z.1 z.2.1 z.2.2.1)⟩
def r8targetsS:FSpec:=⟨[.val (cZ),.val (mD)],[.tip (aZ)],fun z=>oZ z.1 z.2.1⟩
def r8callsS:FSpec:=⟨[.val (cZ),.val ((.int .i64)),.val ((.int .i64))],[.val (.bool)],fun z=>vE z.1 z.2.1 z.2.2.1⟩
def r8edgesS:FSpec:=⟨[.val (cZ)],[.val (jH)],fun z=>vD z.1⟩
def r8waysS:FSpec:=⟨[.val (jH)],[.val (aFf)],fun z=>oY z.1⟩
def fenterS:FSpec:=⟨[.box 155 ((.pair jH (.pair (.osl 3 (.int .i64)) (.pair (.osl 3 (.int .i64)) (.pair (.osl 4 .bool) (.pair (.osl 3 (.int .i64)) (.pair (.int .i64) (.pair (.osl 26 aZ) .unit)))))))),.val ((.int .i64))],[],fun z=>wR z.1 z.2.1⟩
def fleaveS:FSpec:=⟨[.box 155 ((.pair jH (.pair (.osl 3 (.int .i64)) (.pair (.osl 3 (.int .i64)) (.pair (.osl 4 .bool) (.pair (.osl 3 (.int .i64)) (.pair (.int .i64) (.pair (.osl 26 aZ) .unit)))))))),.val ((.int .i64))],[],fun z=>wO z.1 z.2.1⟩
def ffromS:FSpec:=⟨[.box 155 ((.pair jH (.pair (.osl 3 (.int .i64)) (.pair (.osl 3 (.int .i64)) (.pair (.osl 4 .bool) (.pair (.osl 3 (.int .i64)) (.pair (.int .i64) (.pair (.osl 26 aZ) .unit)))))))),.val ((.int .i64))],[],fun z=>wQ z.1 z.2.1⟩
def clipIOS:FSpec:=⟨[.take 3 ((.int .i64))],[.own 3 ((.int .i64))],fun z=>some (idL z.1,())⟩
def clipIIOS:FSpec:=⟨[.take 26 (aZ)],[.own 26 (aZ)],fun z=>some (idL z.1,())⟩
def ringsS:FSpec:=⟨[.val (jH)],[.val (jH)],fun z=>jL z.1⟩
def r5localS:FSpec:=⟨[.val (iC),.val ((.int .i64))],[.val (dS)],fun z=>yS z.1 z.2.1⟩
def rjoinS:FSpec:=⟨[.val (lD),.val (dS),.val (dS)],[.val (dS)],fun z=>uY z.1 z.2.1 z.2.2.1⟩
def r8givesS:FSpec:=⟨[.val (iC)],[.val (bV)],fun z=>vC z.1⟩
def r8ruleS:FSpec:=⟨[.val (cZ),.val ((.int .i64)),.val (mD)],[.val (bV),.val (bV)],fun z=>yP z.1 z.2.1 z.2.2.1⟩
def r8stepS:FSpec:=⟨[.val (cZ),.val ((.int .i64)),.val ((.int .i64)),.val (bV)],[.val (bV),.val (aZ),.val ((.int .i64))],fun z=>pA z.1 z.2.1 z.2.2.1 z.2.2.2.1⟩
def r8shapesS:FSpec:=⟨[.val (cZ),.val ((.int .i64))],[.val (aCv),.val (.bool)],fun z=>vB z.1 z.2.1⟩
def r8allS:FSpec:=⟨[.val (cZ)],[.val (oR),.val ((.int .i64))],fun z=>kM z.1⟩
def growTS:FSpec:=⟨[.nilp true,.val ((.int .i64))],[.own 39 (dS)],fun z=>wM z.1 z.2.1⟩
def concatTS:FSpec:=⟨[.val (aFe)],[.val (bV)],fun z=>oI z.1⟩
def indexIS:FSpec:=⟨[.val (aZ),.val ((.int .i64))],[.val ((.int .i64))],fun z=>some (aBC z.1 z.2.1,())⟩
def containsIS:FSpec:=⟨[.val (aZ),.val ((.int .i64))],[.val (.bool)],fun z=>some (wW z.1 z.2.1,())⟩
def clipQS:FSpec:=⟨[.val (rW)],[.val (rW)],fun z=>some (idL z.1,())⟩
def cupS:FSpec:=⟨[.val (cZ),.val ((.int .i64))],[.val ((.int .i64))],fun z=>cup z.1 z.2.1⟩
def cfieldsS:FSpec:=⟨[.val (cZ),.val ((.int .i64))],[.val (bV)],fun z=>pX z.1 z.2.1⟩
def csizeS:FSpec:=⟨[.val (cZ),.val ((.int .i64))],[.val ((.int .i64))],fun z=>wV z.1 z.2.1⟩
def clocalS:FSpec:=⟨[.val (iC),.val ((.int .i64))],[.val (dS)],fun z=>tV z.1 z.2.1⟩
def numIsS:FSpec:=⟨[.val ((.int .i64))],[.val (.bool)],fun z=>some (mK z.1,())⟩
def fnumberS:FSpec:=⟨[],[.val (dS)],fun _=>some (jB,())⟩
def farrayS:FSpec:=⟨[],[.val (dS)],fun _=>some (wS,())⟩
def fobjectS:FSpec:=⟨[.val ((.int .i64))],[.val (dS)],fun z=>some (mX z.1,())⟩
def fplain1S:FSpec:=⟨[.val (bV)],[.val (bV)],fun z=>some (gU z.1,())⟩
def fof1S:FSpec:=⟨[.val (dS)],[.val (bV)],fun z=>some (fV z.1,())⟩
def fcalledS:FSpec:=⟨[.val (iC),.val (bV)],[.val ((.pair bV (.pair bV .unit)))],fun z=>tO z.1 z.2.1⟩
def fplainS:FSpec:=⟨[.val ((.int .i64))],[.val ((.pair bV (.pair bV .unit))),.val (.bool)],fun z=>some (eL z.1)⟩
def fofS:FSpec:=⟨[.val (cZ),.val (mD),.val ((.int .i64))],[.val ((.pair bV (.pair bV .unit)))],fun z=>fof z.1 z.2.1 z.2.2.1⟩
def ffitsS:FSpec:=⟨[.val (cZ),.val ((.int .i64)),.val (dS),.val (dS)],[.val (.bool)],fun z=>some (dZ z.1 z.2.1 z.2.2.1 z.2.2.2.1,())⟩
def fnextsS:FSpec:=⟨[.val (mD),.val ((.int .i64))],[.val (aZ)],fun z=>some (dX z.1 z.2.1,())⟩
def fstepS:FSpec:=⟨[.val (cZ),.val ((.int .i64)),.val ((.int .i64)),.val (bV)],[.val (bV),.val (aZ),.val ((.int .i64))],fun z=>pR z.1 z.2.1 z.2.2.1 z.2.2.2.1⟩
def cyc1S:FSpec:=⟨[.val ((.int .i64)),.cap (aZ)],[.val (.bool)],fun z=>some (tU z.1 z.2.1,())⟩
def indexCycS:FSpec:=⟨[.val (aZ),.val ((.clo 112 (.pair aZ .unit)))],[.val ((.int .i64))],fun z=>some (aBE z.1 z.2.1,())⟩
def containsCycS:FSpec:=⟨[.val (aZ),.val ((.clo 112 (.pair aZ .unit)))],[.val (.bool)],fun z=>some (zX z.1 z.2.1,())⟩
def cyclicS:FSpec:=⟨[.val (jH),.val (aZ)],[.val (.bool)],fun z=>tT z.1 z.2.1⟩
def mul64S:FSpec:=⟨[.val ((.int .u64)),.val ((.int .u64))],[.val ((.int .u64)),.val ((.int .u64))],fun z=>vT z.1 z.2.1⟩
def lofS:FSpec:=⟨[.val ((.int .i64))],[.val ((.pair (.int .i64) (.pair .bool .unit)))],fun z=>some (lof z.1,())⟩
def lsizeS:FSpec:=⟨[.val ((.int .i64))],[.val ((.int .u64))],fun z=>some (fQ z.1,())⟩
def lplusS:FSpec:=⟨[.val ((.pair (.int .i64) (.pair .bool .unit))),.val ((.pair (.int .i64) (.pair .bool .unit)))],[.val ((.pair (.int .i64) (.pair .bool .unit)))],fun z=>zH z.1 z.2.1⟩
def ltimesS:FSpec:=⟨[.val ((.pair (.int .i64) (.pair .bool .unit))),.val ((.pair (.int .i64) (.pair .bool .unit)))],[.val ((.pair (.int .i64) (.pair .bool .unit)))],fun z=>zG z.1 z.2.1⟩
def lholdsS:FSpec:=⟨[.val (aAt),.val (aZ)],[.val (.bool),.val ((.int .i64))],fun z=>wF z.1 z.2.1⟩
def pshapeS:FSpec:=⟨[.val (oR),.val ((.int .i64)),.val ((.int .i64))],[.val (uL)],fun z=>pC z.1 z.2.1 z.2.2.1⟩
def pcostS:FSpec:=⟨[.val (cZ),.val (mD)],[.val ((.int .i64))],fun z=>kN z.1 z.2.1⟩
def prowS:FSpec:=⟨[.val ((.int .i64)),.val ((.int .i64)),.val ((.int .i64)),.val ((.int .i64))],[.val (aAt)],fun z=>qR z.1 z.2.1 z.2.2.1 z.2.2.2.1⟩
def prulesS:FSpec:=⟨[.val (cZ),.val (oR),.val ((.int .i64))],[.val (rW)],fun z=>sT z.1 z.2.1 z.2.2.1⟩
def pnegS:FSpec:=⟨[.val ((.int .i64))],[.val (.bool)],fun z=>some (aHa z.1,())⟩
def indexNegS:FSpec:=⟨[.val (aZ),.val ((.clo 42 .unit))],[.val ((.int .i64))],fun z=>some (aBB z.1 z.2.1,())⟩
def containsNegS:FSpec:=⟨[.val (aZ),.val ((.clo 42 .unit))],[.val (.bool)],fun z=>some (zW z.1 z.2.1,())⟩
def pcheckS:FSpec:=⟨[.val (cZ),.val (oR)],[.val ((.int .i64)),.val ((.int .i64))],fun z=>pE z.1 z.2.1⟩
def r14costS:FSpec:=⟨[.val (cZ),.val (mD)],[.val ((.int .i64))],fun z=>sR z.1 z.2.1⟩
def clipMOS:FSpec:=⟨[.take 42 (iC)],[.own 42 (iC)],fun z=>some (idL z.1,())⟩
def icopyHS:FSpec:=⟨[.val (cZ)],[.str (aLc)],fun z=>wK z.1⟩
def cofLS:FSpec:=⟨[.val (cZ),.val ((.int .i64))],[.own 3 ((.int .i64))],fun z=>cof z.1 z.2.1⟩
def maxL15S:FSpec:=⟨[.val (aZ)],[.val ((.int .i64))],fun z=>vZ z.1⟩
def pleastS:FSpec:=⟨[.val (cZ),.val (oR),.val ((.int .i64))],[.own 3 ((.int .i64)),.val (.bool)],fun z=>pD z.1 z.2.1 z.2.2.1⟩
def pfillS:FSpec:=⟨[.val (cZ),.val (oR)],[.val (cZ),.val (.bool)],fun z=>lF z.1 z.2.1⟩
def sane15S:FSpec:=⟨[.val (cZ)],[.val (.bool)],fun z=>some (uU z.1,())⟩
def typed15S:FSpec:=⟨[.val (cZ)],[.val (oR),.val (.bool)],fun z=>xP z.1⟩
def awake15S:FSpec:=⟨[],[.val (.bool)],fun _=>awake15N⟩
def aA7:List Ty:=[cZ]
noncomputable def potRingsS:FSpec:=⟨[.val (cZ)],[.val (.bool)],fun z=>@ite _ (xG Tryz.prog aA7 z) (Classical.propDecidable _) (some (true,())) none⟩
theorem aFM:FOk Tryz.prog 106 sortIS:=sort_fok 3 ⟨_,Tryz.func106,by kernel_rfl,by kernel_rfl⟩ Tryz.slices_Sort_int Tryz.slices_Sort_int_none
theorem aRW:FOk Tryz.prog 108 compactIS:=compact_fok 3 ⟨_,Tryz.func108,by kernel_rfl,by kernel_rfl⟩ Tryz.slices_Compact_int Tryz.slices_Compact_int_empty
theorem yI:FOk Tryz.prog 99 rinS:=fk (cx [] [] 18 []) ⟨[(2,(4,[.val 5 ((.int .i64)) false]))],[],[],[]⟩ trivial Tryz.func99 fun z r _ h=>(aNg z.1 z.2.1 r h).elim fun k hk=>⟨k,.trans (by kernel_rfl) hk⟩
theorem aNq:FOk Tryz.prog 76 rargsS:=fk (cx [(99,rinS)] [] 24 []) A0 ⟨yI,trivial⟩ Tryz.func76 fun z r _ h=>⟨0,.trans (by kernel_rfl) ((aNp z.1).trans h)⟩
theorem aNd:FOk Tryz.prog 70 rinstrS:=fk (cx [(76,rargsS)] [] 45 [1]) ⟨[],[(2,(2,[]))],[],[]⟩ ⟨aNq,trivial⟩ Tryz.func70 fun z r _ h=>⟨0,.trans (by kernel_rfl) ((aNc z.1).trans h)⟩
theorem aSs:FOk Tryz.prog 104 clipCS:=fk (cx [] [] 9 []) A0 trivial Tryz.func104 fun z r _ h=>⟨0,.trans (by kernel_rfl) ((aSr z.1).trans h)⟩
theorem aSg:FOk Tryz.prog 145 clipTS:=fk (cx [] [] 9 []) A0 trivial Tryz.func145 fun z r _ h=>⟨0,.trans (by kernel_rfl) ((aSf z.1).trans h)⟩
theorem aKb:FOk Tryz.prog 107 clipIS:=fk (cx [] [] 9 []) A0 trivial Tryz.func107 fun z r _ h=>⟨0,.trans (by kernel_rfl) ((aSn z.1).trans h)⟩
theorem aSe:FOk Tryz.prog 150 clipXS:=fk (cx [] [] 9 []) A0 trivial Tryz.func150 fun z r _ h=>⟨0,.trans (by kernel_rfl) ((aSd z.1).trans h)⟩
theorem aSm:FOk Tryz.prog 147 clipJS:=fk (cx [] [] 9 []) A0 trivial Tryz.func147 fun z r _ h=>⟨0,.trans (by kernel_rfl) ((aSl z.1).trans h)⟩
def cloneTS0:FSpec:=⟨[.full (bV) false],[.val (bV)],fun _=>some (([]:List Tp),())⟩
def cloneTS1:FSpec:=⟨[.full (bV) true],[.val (bV)],fun z=>aBY z.1⟩
theorem aR3:FOk Tryz.prog 146 cloneTS0:=fk (cx [] [] 8 []) A0 trivial Tryz.func146 fun z r _ h=>⟨0,.trans (by kernel_rfl) h⟩
theorem aR2:FOk Tryz.prog 146 cloneTS1:=fk (cx [] [] 8 []) A0 trivial Tryz.func146 fun z r _ h=>⟨0,.trans (by kernel_rfl) h⟩
theorem aR4:FOk Tryz.prog 146 cloneTS:=FOk.split _ aR2 aR3 (fun _ h=>h)
def cloneJS0:FSpec:=⟨[.full (jI) false],[.val (jI)],fun _=>some (([]:List Int),())⟩
def cloneJS1:FSpec:=⟨[.full (jI) true],[.val (jI)],fun z=>aBZ z.1⟩
theorem aR6:FOk Tryz.prog 148 cloneJS0:=fk (cx [] [] 8 []) A0 trivial Tryz.func148 fun z r _ h=>⟨0,.trans (by kernel_rfl) h⟩
theorem aR5:FOk Tryz.prog 148 cloneJS1:=fk (cx [] [] 8 []) A0 trivial Tryz.func148 fun z r _ h=>⟨0,.trans (by kernel_rfl) h⟩
theorem aR7:FOk Tryz.prog 148 cloneJS:=FOk.split _ aR5 aR6 (fun _ h=>h)
def cloneIS0:FSpec:=⟨[.full (aZ) false],[.val (aZ)],fun _=>some (([]:List Int),())⟩
def cloneIS1:FSpec:=⟨[.full (aZ) true],[.val (aZ)],fun z=>aB0 z.1⟩
theorem aR9:FOk Tryz.prog 149 cloneIS0:=fk (cx [] [] 8 []) A0 trivial Tryz.func149 fun z r _ h=>⟨0,.trans (by kernel_rfl) h⟩
theorem aR8:FOk Tryz.prog 149 cloneIS1:=fk (cx [] [] 8 []) A0 trivial Tryz.func149 fun z r _ h=>⟨0,.trans (by kernel_rfl) h⟩
theorem aSa:FOk Tryz.prog 149 cloneIS:=FOk.split _ aR8 aR9 (fun _ h=>h)
def cloneXS0:FSpec:=⟨[.full (lC) false],[.val (lC)],fun _=>some (([]:List Ins),())⟩
def cloneXS1:FSpec:=⟨[.full (lC) true],[.val (lC)],fun z=>aBX z.1⟩
theorem aR0:FOk Tryz.prog 151 cloneXS0:=fk (cx [] [] 8 []) A0 trivial Tryz.func151 fun z r _ h=>⟨0,.trans (by kernel_rfl) h⟩
theorem aRZ:FOk Tryz.prog 151 cloneXS1:=fk (cx [] [] 8 []) A0 trivial Tryz.func151 fun z r _ h=>⟨0,.trans (by kernel_rfl) h⟩
theorem aR1:FOk Tryz.prog 151 cloneXS:=FOk.split _ aRZ aR0 (fun _ h=>h)
theorem aSV:FOk Tryz.prog 100 anTS:=fk (cx [(145,clipTS),(146,cloneTS)] [] 6 []) A0 ⟨aSg,aR4,trivial⟩ Tryz.func100 fun z r _ h=>⟨0,.trans (by kernel_rfl) h⟩
theorem aSX:FOk Tryz.prog 101 anJS:=fk (cx [(147,clipJS),(148,cloneJS)] [] 6 []) A0 ⟨aSm,aR7,trivial⟩ Tryz.func101 fun z r _ h=>⟨0,.trans (by kernel_rfl) h⟩
theorem aSY:FOk Tryz.prog 102 anIS:=fk (cx [(107,clipIS),(149,cloneIS)] [] 6 []) A0 ⟨aKb,aSa,trivial⟩ Tryz.func102 fun z r _ h=>⟨0,.trans (by kernel_rfl) h⟩
theorem aSU:FOk Tryz.prog 103 anXS:=fk (cx [(150,clipXS),(151,cloneXS)] [] 6 []) A0 ⟨aSe,aR1,trivial⟩ Tryz.func103 fun z r _ h=>⟨0,.trans (by kernel_rfl) h⟩
theorem aIu:FOk Tryz.prog 143 kisrefS:=fk (cx [] [] 16 [1]) A0 trivial Tryz.func143 fun z r _ h=>⟨0,.trans (by kernel_rfl) ((aPV z.1).trans h)⟩
theorem aPS:FOk Tryz.prog 180 kupS:=fk (cx [] [] 27 []) A0 trivial Tryz.func180 fun z r _ h=>⟨0,.trans (by kernel_rfl) ((aPR z.1 z.2.1).trans h)⟩
theorem aIx:FOk Tryz.prog 135 kbelowS:=fk (cx [(180,kupS)] [] 29 []) ⟨[(3,(4,[.val 1 ((.int .i64)) false]))],[],[],[]⟩ ⟨aPS,trivial⟩ Tryz.func135 fun z r _ h=>(aPX z.1 z.2.1 z.2.2.1).elim fun k hk=>⟨k,.trans (by kernel_rfl) (hk.trans h)⟩
theorem aPU:FOk Tryz.prog 144 ksubS:=fk (cx [(135,kbelowS),(143,kisrefS)] [] 41 [4,5]) A0 ⟨aIx,aIu,trivial⟩ Tryz.func144 fun z r _ h=>⟨0,.trans (by kernel_rfl) ((aPT z.1 z.2.1 z.2.2.1).trans h)⟩
theorem aAL:FOk Tryz.prog 89 raboveS:=fk (cx [] [16] 30 []) ⟨[(2,(6,[.val 1 ((.int .i64)) false,.val 5 (aZ) true]))],[],[],[]⟩ trivial Tryz.func89 fun z r _ h=>(aNr z.1 z.2.1 r h).elim fun k hk=>⟨k,.trans (by kernel_rfl) hk⟩
theorem aGg:FOk Tryz.prog 52 risrefS:=fk (cx [] [] 16 [1]) A0 trivial Tryz.func52 fun z r _ h=>⟨0,.trans (by kernel_rfl) ((aNa z.1).trans h)⟩
theorem aGo:FOk Tryz.prog 130 rgoodS:=fk (cx [] [] 34 [2]) A0 trivial Tryz.func130 fun z r _ h=>⟨0,.trans (by kernel_rfl) ((aNi z.1 z.2.1).trans h)⟩
theorem aCV:FOk Tryz.prog 53 rsubS:=fk (cx [(52,risrefS),(89,raboveS),(99,rinS)] [] 40 [4,5]) ⟨[],[],[(4,[[],[],[],[],[],[4],[4],[],[4,5,6,7],[4,5,6,7],[],[],[]])],[]⟩ ⟨aGg,aAL,yI,trivial⟩ Tryz.func53 fun z r _ h=>⟨0,.trans (by kernel_rfl) (aM0 z.1 z.2.1 z.2.2.1 r h)⟩
theorem aF0:FOk Tryz.prog 60 rtypesS:=fk (cx [] [] 26 []) ⟨[(4,(4,[.val 5 ((.int .i64)) false]))],[],[(6,[[],[0],[],[],[0,1,2,3],[0,1,2,3,4],[0,1,2,3],[0,1,2,3],[]])],[]⟩ trivial Tryz.func60 fun z r hl h=>(aMW z.1 z.2.1 hl).elim fun k hk=>⟨k,.trans (by kernel_rfl) (hk.trans h)⟩
theorem aC5:FOk Tryz.prog 68 r5inS:=fk (cx [] [] 15 []) A0 trivial Tryz.func68 fun z r _ h=>⟨0,.trans (by kernel_rfl) ((aNZ z.1 z.2.1 z.2.2.1).trans h)⟩
theorem aNX:FOk Tryz.prog 67 r5listS:=fk (cx [(68,r5inS)] [] 25 []) ⟨[(4,(4,[.val 7 ((.int .i64)) false]))],[],[],[]⟩ ⟨aC5,trivial⟩ Tryz.func67 fun z r hl h=>(aNW z.1 z.2.1 z.2.2.1 hl).elim fun k hk=>⟨k,.trans (by kernel_rfl) (hk.trans h)⟩
theorem aGI:FOk Tryz.prog 69 r5typS:=fk (cx [(68,r5inS)] [] 21 [1]) A0 ⟨aC5,trivial⟩ Tryz.func69 fun z r _ h=>⟨0,.trans (by kernel_rfl) ((aNL z.1).trans h)⟩
theorem aNJ:FOk Tryz.prog 66 r5typesS:=fk (cx [(69,r5typS)] [] 22 []) ⟨[(4,(4,[.val 5 ((.int .i64)) false]))],[],[],[]⟩ ⟨aGI,trivial⟩ Tryz.func66 fun z r hl h=>(aNI z.1 z.2.1 hl).elim fun k hk=>⟨k,.trans (by kernel_rfl) (hk.trans h)⟩
theorem aN3:FOk Tryz.prog 34 r5fitsS:=fk (cx [(66,r5typesS),(67,r5listS),(68,r5inS),(69,r5typS),(70,rinstrS)] [] 142 [1,4,6]) ⟨[(4,(5,[.val 3 ((.int .i64)) false])),(10,(10,[.val 5 ((.int .i64)) false])),(16,(4,[.val 7 ((.int .i64)) false]))],[],[],[]⟩ ⟨aNJ,aNX,aC5,aGI,aNd,trivial⟩ Tryz.func34 fun z r hl h=>(aN2 z.1 hl).elim fun k hk=>⟨k,.trans (by kernel_rfl) (hk.trans h)⟩
theorem aA1:FOk Tryz.prog 45 r5fieldsS:=fk (cx [(89,raboveS)] [20,31] 32 [2]) ⟨[(4,(3,[.val 6 (bV) true,.val 7 ((.int .i64)) false]))],[],[(6,[[],[0],[0],[0,1,2],[0,1,2,3],[0,1,2],[0,1,2],[0],[0],[0],[],[]])],[]⟩ ⟨aAL,trivial⟩ Tryz.func45 fun z r _ h=>(aN5 z.1 z.2.1 r h).elim fun k hk=>⟨k,.trans (by kernel_rfl) hk⟩
theorem aC6:FOk Tryz.prog 79 r5goodS:=fk (cx [(130,rgoodS)] [] 21 [2]) ⟨[(2,(4,[.val 5 ((.int .i64)) false]))],[],[(4,[[],[0],[],[],[0,1,2,3],[0,1,2,3],[0,1,2,3],[],[]])],[]⟩ ⟨aGo,trivial⟩ Tryz.func79 fun z r hl h=>(aN0 z.1 z.2.1 hl).elim fun k hk=>⟨k,.trans (by kernel_rfl) (hk.trans h)⟩
theorem aN7:FOk Tryz.prog 80 r5classS:=fk (cx [(45,r5fieldsS),(53,rsubS),(60,rtypesS),(79,r5goodS)] [] 118 [2,5,8,9]) ⟨[(10,(11,[.val 7 ((.int .i64)) false]))],[(5,(2,[.val 6 (aZ) false])),(12,(9,[]))],[(12,[[],[],[0,1],[],[],[0,1,2,3,4],[0,1,2,3,4],[0,1,2,3,4],[]]),(14,[[],[],[0,1],[0,1],[0,1,2,3],[0,1],[0,1],[],[],[0,1,2,3,4,5,6,7,8],[]]),(15,[[],[],[],[],[],[],[],[5,6],[5,6],[5,6,7,8],[5,6,7,8],[5,6,7,8],[5,6,7,8],[],[],[]]),(18,[[],[],[0,1],[0,1,2],[0,1],[0,1],[],[],[0,1,2,3,4,5,6,7],[]]),(19,[[],[],[],[0,1,2],[0,1,2],[0,1,2],[],[],[],[],[],[9,10],[9,10],[],[]])],[]⟩ ⟨aA1,aCV,aF0,aC6,trivial⟩ Tryz.func80 fun z r _ h=>(aN6 z.1 z.2.1 r h).elim fun k hk=>⟨k,.trans (by kernel_rfl) hk⟩
theorem aNR:FOk Tryz.prog 131 r5namedS:=fk (cx [(45,r5fieldsS)] [] 105 [3,4,5]) ⟨[],[(4,(2,[.val 17 (.bool) false])),(7,(2,[.val 30 (.bool) false])),(10,(2,[.val 39 (.bool) false])),(13,(2,[.val 48 (.bool) false])),(16,(2,[.val 67 (.bool) false]))],[(15,[[],[],[0,1],[0,1],[0,1],[],[],[],[],[7,8],[7,8,9],[7,8,9],[7,8],[7,8],[],[],[]]),(22,[[],[],[0,1],[0,1],[0,1],[],[],[],[],[7,8],[7,8],[7,8,9,10],[7,8,9,10],[7,8],[7,8],[7,8],[7,8],[],[],[]])],[]⟩ ⟨aA1,trivial⟩ Tryz.func131 fun z r _ h=>⟨0,.trans (by kernel_rfl) (aNQ z.1 z.2.1 z.2.2.1 r h)⟩
theorem aNT:FOk Tryz.prog 81 r5methodS:=fk (cx [(79,r5goodS),(130,rgoodS),(131,r5namedS)] [] 74 [2,3]) ⟨[(4,(4,[.val 5 ((.int .i64)) false]))],[(1,(2,[]))],[(6,[[],[0],[0,1],[0,1],[0,1,2,3],[0,1],[0,1],[],[]])],[]⟩ ⟨aC6,aGo,aNR,trivial⟩ Tryz.func81 fun z r _ h=>(aNS z.1 z.2.1 r h).elim fun k hk=>⟨k,.trans (by kernel_rfl) hk⟩
theorem aGL:FOk Tryz.prog 39 r5saneS:=fk (cx [(34,r5fitsS),(79,r5goodS),(80,r5classS),(81,r5methodS)] [] 111 [1]) ⟨[(5,(3,[.val 3 (.bool) false,.val 4 ((.int .i64)) false])),(9,(3,[.val 3 (.bool) false,.val 5 ((.int .i64)) false])),(13,(10,[.val 3 (.bool) false,.val 6 ((.int .i64)) false])),(20,(3,[.val 3 (.bool) false,.val 8 ((.int .i64)) false]))],[(4,(4,[.val 3 (.bool) false])),(8,(4,[.val 3 (.bool) false])),(18,(1,[.val 3 (.bool) false]))],[(11,[[],[0],[0],[0,1,2],[0],[0],[],[]])],[]⟩ ⟨aN3,aC6,aN7,aNT,trivial⟩ Tryz.func39 fun z r hl h=>(aNO z.1 hl).elim fun k hk=>⟨k,.trans (by kernel_rfl) (hk.trans h)⟩
theorem aSy:FOk Tryz.prog 87 cbelowS:=fk (cx [(107,clipIS),(135,kbelowS)] [18] 25 [2]) ⟨[(3,(5,[.val 5 (aZ) true,.val 10 ((.int .i64)) false]))],[],[],[]⟩ ⟨aKb,aIx,trivial⟩ Tryz.func87 fun z r _ h=>(aSx z.1 z.2.1 r h).elim fun k hk=>⟨k,.trans (by kernel_rfl) hk⟩
theorem aJN:FOk Tryz.prog 88 cslotS:=fk (cx [] [] 41 [3]) A0 trivial Tryz.func88 fun z r _ h=>⟨0,.trans (by kernel_rfl) ((aJM z.1 z.2.1 z.2.2.1).trans h)⟩
theorem aJJ:FOk Tryz.prog 44 ctargetsS:=fk (cx [(87,cbelowS),(88,cslotS)] [14,39,44] 45 [2,3]) ⟨[(7,(6,[.val 5 (aZ) true,.val 26 ((.int .i64)) false]))],[],[],[]⟩ ⟨aSy,aJN,trivial⟩ Tryz.func44 fun z r _ h=>(aRD z.1 z.2.1 r h).elim fun k hk=>⟨k,.trans (by kernel_rfl) hk⟩
theorem aN9:FOk Tryz.prog 90 r5belowS:=fk (cx [(89,raboveS),(99,rinS)] [21,25] 26 [2]) ⟨[(3,(4,[.val 5 (aZ) true,.val 6 ((.int .i64)) false]))],[],[],[]⟩ ⟨aAL,yI,trivial⟩ Tryz.func90 fun z r _ h=>(aN8 z.1 z.2.1 r h).elim fun k hk=>⟨k,.trans (by kernel_rfl) hk⟩
theorem aGK:FOk Tryz.prog 91 r5slotS:=fk (cx [] [] 41 [3]) A0 trivial Tryz.func91 fun z r _ h=>⟨0,.trans (by kernel_rfl) ((aNM z.1 z.2.1 z.2.2.1).trans h)⟩
theorem aGz:FOk Tryz.prog 46 r8targetsS:=fk (cx [(90,r5belowS),(91,r5slotS)] [14,44,48] 49 [2,3]) ⟨[(7,(5,[.val 5 (aZ) true,.val 7 ((.int .i64)) false]))],[(2,(2,[.val 5 (aZ) true]))],[(9,[[],[0],[0,1],[0],[0],[0,1,2,3,4],[0,1,2,3,4],[],[],[],[9],[10],[]])],[(9,[0,1,2,3,4,5,6,7,8,9,11,10,12])]⟩ ⟨aN9,aGK,trivial⟩ Tryz.func46 fun z r _ h=>(aNw z.1 z.2.1 r h).elim fun k hk=>⟨k,.trans (by kernel_rfl) hk⟩
theorem aNG:FOk Tryz.prog 61 r8callsS:=fk (cx [(46,r8targetsS),(99,rinS)] [] 32 [3]) ⟨[(2,(4,[.val 7 ((.int .i64)) false]))],[],[(4,[[],[0],[0],[0,1,2],[0],[0],[0],[0,1,2,3,4,5,6],[0],[0],[],[0,1,2,3,4,5,6,7,8,9,10],[]])],[]⟩ ⟨aGz,yI,trivial⟩ Tryz.func61 fun z r _ h=>(aNF z.1 z.2.1 z.2.2.1 r h).elim fun k hk=>⟨k,.trans (by kernel_rfl) hk⟩
theorem aNE:FOk Tryz.prog 26 r8edgesS:=fk {cx [(61,r8callsS)] [27,31] 36 [1,7,3,34] with rows:=[3,7,34] } ⟨[(3,(9,[.own 3 26 (aZ),.val 4 ((.int .i64)) false])),(7,(4,[.val 5 (aZ) true,.val 6 ((.int .i64)) false]))],[],[],[]⟩ ⟨aNG,trivial⟩ Tryz.func26 fun z r _ h=>(aND z.1 r h).elim fun k hk=>⟨k,.trans (by kernel_rfl) hk⟩
theorem aNv:FOk Tryz.prog 25 r8waysS:=fk {cx [] [] 111 [13,22] with rows:=[13,22],nests:=[13] } ⟨[(4,(8,[.val 5 ((.int .i64)) false,.row 13 66 ((.osl 4 .bool))])),(8,(4,[.val 6 ((.int .i64)) false,.row 13 66 ((.osl 4 .bool))])),(13,(9,[.val 7 ((.int .i64)) false,.row 13 66 ((.osl 4 .bool))])),(16,(6,[.val 8 ((.int .i64)) false,.row 13 66 ((.osl 4 .bool))])),(19,(3,[.val 9 ((.int .i64)) false,.row 13 66 ((.osl 4 .bool))]))],[],[(11,[[],[0],[],[],[0,1,2,3],[0,1,2,3,4],[0,1,2,3],[0,1,2,3],[0,1,2,3,4,5,6,7],[0,1,2,3],[0,1,2,3],[],[]]),(21,[[],[0],[],[],[0,1,2,3],[0,1,2,3,4],[0,1,2,3,4,5],[0,1,2,3,4],[0,1,2,3,4],[0,1,2,3,4,5,6,7,8],[0,1,2,3,4],[0,1,2,3,4],[0,1,2,3,4],[0,1,2,3,4],[0,1,2,3,4,13],[0,1,2,3,4],[0,1,2,3,4],[0,1,2,3,4,13,14,15,16],[0,1,2,3,4],[0,1,2,3,4],[0,1,2,3,4],[0,1,2,3,4],[0,1,2,3,4,21],[0,1,2,3,4],[0,1,2,3,4],[0,1,2,3,4,21,22,23,24],[0,1,2,3,4],[0,1,2,3,4],[0,1,2,3,4],[0,1,2,3,4],[],[]])],[]⟩ trivial Tryz.func25 fun z r _ h=>(aNu z.1 r h).elim fun k hk=>⟨k,.trans (by kernel_rfl) hk⟩
theorem aQ2:FOk Tryz.prog 154 fenterS:=fk {cx [] [41] 47 [1002000001,1002000002,1002000003,1002000004,1002000006,1000000,44] with rows:=[44] } ⟨[],[],[(1,[[],[],[],[],[0,1,2,3],[0,1,2,3,4],[0,1,2,3,4],[0,1,2,3,4],[0,1,2,3,4],[0,1,2,3,4,5,6,7,8],[0,1,2,3,4,5,6,7,8,9],[0,1,2,3,4,5,6,7,8,9],[0,1,2,3,4,5,6,7,8,9],[0,1,2,3,4,5,6,7,8,9],[0,1,2,3,4,5,6,7,8,9,10,11,12,13],[0,1,2,3,4,5,6,7,8,9,10,11,12,13],[0,1,2,3,4,5,6,7,8,9,10,11,12,13],[0,1,2,3,4,5,6,7,8,9,10,11,12,13],[9],[9],[],[]])],[(1,[0,1,2,3,4,5,6,7,8,19,9,10,11,12,13,14,15,16,17,18,20,21])]⟩ trivial Tryz.func154 fun z r _ h=>⟨0,.trans (by kernel_rfl) h⟩
theorem aJ9:FOk Tryz.prog 107 clipIOS:=fk {cx [] [] 9 [0,8] with rows:=[1,8] } A0 trivial Tryz.func107 fun z r _ h=>⟨0,.trans (by kernel_rfl) ((aSo z.1).trans h)⟩
theorem aQO:FOk Tryz.prog 155 fleaveS:=fk {cx [(1000000000106,sortIS),(1000000000107,clipIOS)] [50,63] 70 [1002000001,1002000002,1002000003,1002000004,1002000006,1000000,4,41,53,65,67] with rows:=[4,41,53,65,67],thaws:=[65] } ⟨[(2,(6,[.own 4 3 ((.int .i64)),.lnk 1002000003 4 (.bool),.lnk 1002000004 3 ((.int .i64))]))],[],[(0,[[],[],[],[],[0,1,2,3],[],[],[0,1,2,3,4,5,6],[0,1,2,3,4,5,6],[0,1,2,3,4,5,6],[0,1,2,3,4,5,6],[0,1,2,3,4,5,6,7,8,9,10],[0,1,2,3,4,5,6],[0,1,2,3,4,5,6],[]]),(9,[[],[0],[0],[0],[0],[0,1,2,3,4],[0,1,2,3,4],[0,1,2,3,4],[0],[],[],[]])],[]⟩ ⟨aFM,aJ9,trivial⟩ Tryz.func155 fun z r _ h=>(aQN z.1 z.2.1 r h).elim fun k hk=>⟨k,.trans (by kernel_rfl) hk⟩
theorem aQZ:FOk Tryz.prog 109 ffromS:=fk {cx [(154,fenterS),(155,fleaveS)] [83] 169 [1002000001,1002000002,1002000003,1002000004,1002000006,1000000,11,4,87,134] with rows:=[4,11,87,134] } ⟨[(2,(17,[.own 4 188 (dS),.lnk 1002000001 3 ((.int .i64)),.lnk 1002000002 3 ((.int .i64)),.lnk 1002000003 4 (.bool),.lnk 1002000004 3 ((.int .i64)),.lnk 1002000006 26 (aZ),.box 1000000 155 [(jH,false),(.any,false),(.any,false),(.any,false),(.any,false),((.int .i64),false),(.any,false)]])),(4,(9,[.own 4 188 (dS),.ptr 5 4 0 2,.lnk 1002000002 3 ((.int .i64))]))],[(7,(1,[.val 62 (.bool) false]))],[(4,[[],[],[],[],[0,1,2,3],[0,1,2,3],[0,1,2,3],[0,1,2,3],[0,1,2,3,4,5,6,7],[0,1,2,3,4,5,6,7],[0,1,2,3,4,5,6,7],[0,1,2,3,4,5,6,7],[0,1,2,3],[0,1,2,3],[0,1,2,3],[]]),(5,[[],[],[],[],[0,1,2,3],[0,1,2,3],[0,1,2,3],[0,1,2,3],[],[],[0,1,2,3,4,5,6,7,8,9],[0,1,2,3,4,5,6,7,8,9],[0,1,2,3,4,5,6,7,8,9],[0,1,2,3,4,5,6,7,8,9],[],[],[]]),(12,[[],[],[],[],[0,1,2,3],[0,1,2,3],[0,1,2,3],[0,1,2,3],[0,1,2,3,4,5,6,7],[0,1,2,3,4,5,6,7],[0,1,2,3,4,5,6,7],[0,1,2,3,4,5,6,7],[0,1,2,3,4,5,6,7,8,9,10,11],[0,1,2,3,4,5,6,7,8,9,10,11],[0,1,2,3,4,5,6,7,8,9,10,11],[0,1,2,3,4,5,6,7,8,9,10,11],[0,1,2,3,4,5,6,7],[0,1,2,3,4,5,6,7],[0,1,2,3,4,5,6,7,8,9,10,11,12,13,14,15,16,17],[0,1,2,3,4,5,6,7,8,9,10,11,12,13,14,15,16,17],[0,1,2,3,4,5,6,7,8,9,10,11,12,13,14,15,16,17],[0,1,2,3,4,5,6,7,8,9,10,11,12,13,14,15,16,17],[0,1,2,3,4,5,6,7,8,9,10,11,12,13,14,15,16,17,18,19,20,21],[0,1,2,3,4,5,6,7,8,9,10,11,12,13,14,15,16,17],[0,1,2,3,4,5,6,7,8,9,10,11,12,13,14,15,16,17],[0,1,2,3,4,5,6,7],[],[]]),(18,[[],[],[],[],[0,1,2,3],[0,1,2,3,4],[0,1,2,3,4],[0,1,2,3,4],[0,1,2,3,4],[0,1,2,3,4,5,6,7,8],[0,1,2,3,4],[0,1,2,3,4],[0,1,2,3,4,5,6,7,8,9,10,11],[0,1,2,3,4,5,6,7,8,9,10,11],[0,1,2,3,4,5,6,7,8,9,10,11],[0,1,2,3,4,5,6,7,8,9,10,11],[0,1,2,3,4,5,6,7,8,9,10,11,12,13,14,15],[0,1,2,3,4,5,6,7,8,9,10,11],[0,1,2,3,4,5,6,7,8,9,10,11],[0,1,2,3,4],[],[]])],[]⟩ ⟨aQ2,aQO,trivial⟩ Tryz.func109 fun z r _ h=>(aQY z.1 z.2.1 r h).elim fun k hk=>⟨k,.trans (by kernel_rfl) hk⟩
theorem aSq:FOk Tryz.prog 110 clipIIOS:=fk {cx [] [] 9 [0,8] with rows:=[1,8] } A0 trivial Tryz.func110 fun z r _ h=>⟨0,.trans (by kernel_rfl) ((aSp z.1).trans h)⟩
theorem aNf:FOk Tryz.prog 57 ringsS:=fk {cx [(109,ffromS),(1000000000110,clipIIOS)] [] 39 [2,10,12,14,2016001,2016002,2016003,2016004,2016006,16,38] with rows:=[2,10,12,14,38],lnks:=[(155,[1,2,3,4,6])] } ⟨[(4,(5,[.val 19 ((.int .i64)) false,.lnk 2016001 3 ((.int .i64)),.lnk 2016002 3 ((.int .i64)),.lnk 2016003 4 (.bool),.lnk 2016004 3 ((.int .i64)),.lnk 2016006 26 (aZ),.box 16 155 [(jH,false),(.any,false),(.any,false),(.any,false),(.any,false),((.int .i64),false),(.any,false)]]))],[],[(2,[[],[0],[0],[0,1,2],[0,1,2],[0,1,2,3,4],[0,1,2,3,4],[],[],[]])],[]⟩ ⟨aQZ,aSq,trivial⟩ Tryz.func57 fun z r _ h=>(aNe z.1 r h).elim fun k hk=>⟨k,.trans (by kernel_rfl) hk⟩
theorem aNV:FOk Tryz.prog 97 r5localS:=fk (cx [] [] 26 [2,4]) ⟨[],[],[(1,[[],[0],[0],[],[0,1,2,3],[0,1,2,3],[],[]])],[]⟩ trivial Tryz.func97 fun z r _ h=>⟨0,.trans (by kernel_rfl) h⟩
theorem aM9:FOk Tryz.prog 129 rjoinS:=fk (cx [(53,rsubS),(89,raboveS),(99,rinS)] [] 55 [4,5,6]) ⟨[(9,(4,[.val 9 ((.int .i64)) false]))],[],[(7,[[],[0],[0],[],[0,1,2,3],[0,1,2,3,4],[0,1,2,3,4],[],[],[]])],[]⟩ ⟨aCV,aAL,yI,trivial⟩ Tryz.func129 fun z r _ h=>(aM8 z.1 z.2.1 z.2.2.1 r h).elim fun k hk=>⟨k,.trans (by kernel_rfl) hk⟩
theorem aNC:FOk Tryz.prog 98 r8givesS:=fk (cx [] [] 10 [1]) A0 trivial Tryz.func98 fun z r _ h=>⟨0,.trans (by kernel_rfl) h⟩
theorem aNB:FOk Tryz.prog 51 r8ruleS:=fk (cx [(45,r5fieldsS),(91,r5slotS),(97,r5localS),(98,r8givesS)] [] 218 [3,5,8,9,10,11,12]) ⟨[],[],[(5,[[],[],[0,1],[]]),(7,[[],[],[0,1],[]]),(9,[[],[],[0,1],[],[],[0,1,2,3,4],[0,1,2,3,4],[],[],[8],[]]),(11,[[],[],[0,1],[],[],[0,1,2,3,4],[0,1,2,3,4],[],[],[],[]]),(17,[[],[],[0,1],[0,1],[2,3],[]]),(19,[[],[0],[],[0,1,2],[0,1,2],[3,4],[]]),(21,[[],[],[0,1],[]]),(23,[[],[],[0,1],[0,1],[2,3],[]]),(25,[[],[0],[],[0,1,2],[0,1,2],[3,4],[]]),(29,[[],[],[0,1],[0,1],[2,3],[]]),(31,[[],[],[0,1],[0,1,2],[0,1,2],[0,1],[0,1,2,3,4,5],[0,1,2,3,4,5],[0,1,2,3,4,5,6,7],[0,1,2,3,4,5,6,7],[0,1,2,3,4,5,6,7],[0,1],[6,7,8,9,10,11],[]]),(33,[[],[0],[0,1],[0,1],[0],[0,1,2,3,4],[0,1,2,3,4],[0],[0],[],[],[]]),(35,[[],[],[0,1],[0,1],[],[],[],[0,1,2,3,4,5,6],[]]),(39,[[],[],[0,1],[0,1],[2,3],[]]),(43,[[],[],[0,1],[0,1],[],[],[],[0,1,2,3,4,5,6],[0,1,2,3,4,5,6],[0,1,2,3,4,5,6,7,8],[0,1,2,3,4,5,6,7,8],[0,1,2,3,4,5,6],[0,1,2,3,4,5,6],[0,1,2,3,4,5,6],[],[]]),(46,[[],[],[0,1],[0,1],[0,1,2,3],[0,1],[0,1],[0,1],[0,1],[],[0,1,2,3,4,5,6,7,8,9],[0,1,2,3,4,5,6,7,8,9],[0,1,2,3,4,5,6,7,8,9,10,11],[0,1,2,3,4,5,6,7,8,9],[0,1,2,3,4,5,6,7,8,9],[],[],[]]),(48,[[],[0],[],[0,1,2],[0,1,2],[3,4],[]])],[(5,[1,2,0,3]),(7,[1,2,0,3]),(9,[0,1,2,3,4,5,6,7,9,8,10]),(17,[0,1,3,4,2,5]),(19,[0,1,2,4,5,3,6]),(21,[1,2,0,3]),(23,[0,1,3,4,2,5]),(25,[0,1,2,4,5,3,6]),(29,[0,1,3,4,2,5]),(35,[1,2,3,4,5,6,7,0,8]),(39,[0,1,3,4,2,5]),(48,[0,1,2,4,5,3,6])]⟩ ⟨aA1,aGK,aNV,aNC,trivial⟩ Tryz.func51 fun z r _ h=>⟨0,.trans (by kernel_rfl) h⟩
theorem aGB:FOk Tryz.prog 21 r8stepS:=fk (cx [(51,r8ruleS),(52,risrefS),(53,rsubS)] [65] 196 [4,11,15,18,19]) ⟨[(21,(9,[.val 17 ((.int .i64)) false]))],[(5,(2,[.val 12 (aZ) true])),(7,(2,[.val 12 (aZ) true])),(9,(2,[.val 12 (aZ) true])),(11,(2,[])),(14,(3,[.val 13 (bV) false,.val 14 (bV) false])),(14,(1,[.val 104 (.bool) false])),(17,(2,[]))],[(11,[[],[],[],[],[],[],[],[4,5,6],[4,5,6],[4,5,6,7,8],[4,5,6],[4,5,6],[4,5,6],[4,5,6],[],[]]),(16,[[],[],[0,1],[0,1,2],[0,1],[2,3,4],[]]),(23,[[],[0],[0,1],[0],[],[],[0,1,2,3,4,5],[0,1,2,3,4,5,6],[0,1,2,3,4,5],[0,1,2,3,4,5],[0,1,2,3,4,5,6,7,8,9],[0,1,2,3,4,5,6,7,8,9,10],[6,7,8,9],[]])],[(16,[0,1,3,4,5,2,6]),(23,[0,1,2,3,4,5,9,10,11,12,6,7,8,13])]⟩ ⟨aNB,aGg,aCV,trivial⟩ Tryz.func21 fun z r _ h=>(aNy z.1 z.2.1 z.2.2.1 z.2.2.2.1 r h).elim fun k hk=>⟨k,.trans (by kernel_rfl) hk⟩
theorem aNA:FOk Tryz.prog 78 r8shapesS:=fk {cx [(21,r8stepS),(60,rtypesS),(129,rjoinS)] [119] 139 [2,27,18] with rows:=[27] } ⟨[(7,(32,[.val 8 ((.int .i64)) false,.row 27 52 (uL)])),(11,(26,[.val 9 (.bool) false,.val 10 ((.int .i64)) false,.row 27 52 (uL)])),(18,(19,[.val 9 (.bool) false,.val 14 ((.int .i64)) false,.row 27 52 (uL)])),(28,(6,[.val 16 (bV) true,.val 17 ((.int .i64)) false]))],[],[(14,[[],[0],[0,1],[0,1,2],[0,1,2,3],[0,1,2],[0,1,2],[0,1,2],[],[],[],[10],[10,11],[11,12],[12],[]]),(30,[[],[],[0,1],[0,1,2],[0,1],[0,1],[0,1],[0,1,2,3,4,5,6],[0,1],[0,1],[0,1,2,3,4,5,6,7,8,9],[0,1,2,3,4,5,6,7,8,9,10],[0,1,2,3,4,5,6,7,8,9],[0,1,2,3,4,5,6,7,8,9],[],[0,1,2,3,4,5,6,7,8,9,10,11,12,13,14],[]])],[(14,[0,1,2,3,4,5,6,7,8,9,10,12,14,11,13,15])]⟩ ⟨aGB,aF0,aM9,trivial⟩ Tryz.func78 fun z r _ h=>(aNz z.1 z.2.1 r h).elim fun k hk=>⟨k,.trans (by kernel_rfl) hk⟩
theorem aGF:FOk Tryz.prog 38 r8allS:=fk (cx [(78,r8shapesS)] [25] 30 [1]) ⟨[(3,(6,[.val 4 (oR) true,.val 5 ((.int .i64)) false]))],[],[],[]⟩ ⟨aNA,trivial⟩ Tryz.func38 fun z r _ h=>(aNH z.1 r h).elim fun k hk=>⟨k,.trans (by kernel_rfl) hk⟩
theorem aQq:FOk Tryz.prog 137 growTS:=fk {cx [] [] 27 [4,22,25,0,26] with rows:=[0,4,20,22,25,26],thaws:=[1000009,1000017,1000018] } A0 trivial Tryz.func137 fun z r _ h=>⟨0,.trans (by kernel_rfl) (aQp z.1 z.2.1 r h)⟩
theorem aEz:FOk Tryz.prog 94 concatTS:=fk {cx [(137,growTS)] [31] 36 [24,6,33] with rows:=[6,33] } ⟨[(3,(6,[.val 3 ((.int .i64)) false,.val 11 ((.int .i64)) false])),(11,(4,[.own 6 39 (dS),.val 27 ((.int .i64)) false]))],[],[],[]⟩ ⟨aQq,trivial⟩ Tryz.func94 fun z r _ h=>(aRT z.1 r h).elim fun k hk=>⟨k,.trans (by kernel_rfl) hk⟩
theorem aQd:FOk Tryz.prog 136 indexIS:=fk (cx [] [] 19 []) ⟨[(2,(5,[.val 8 ((.int .i64)) false]))],[],[],[]⟩ trivial Tryz.func136 fun z r hl h=>(aQc z.1 z.2.1 hl).elim fun k hk=>⟨k,.trans (by kernel_rfl) (hk.trans h)⟩
theorem aJR:FOk Tryz.prog 93 containsIS:=fk (cx [(136,indexIS)] [] 9 []) A0 ⟨aQd,trivial⟩ Tryz.func93 fun z r hl h=>⟨0,.trans (by kernel_rfl) ((aRO z.1 z.2.1 hl).trans h)⟩
theorem aSi:FOk Tryz.prog 50 clipQS:=fk (cx [] [] 9 []) A0 trivial Tryz.func50 fun z r _ h=>⟨0,.trans (by kernel_rfl) ((aSh z.1).trans h)⟩
theorem aRB:FOk Tryz.prog 134 cupS:=fk (cx [] [] 19 [2]) A0 trivial Tryz.func134 fun z r _ h=>⟨0,.trans (by kernel_rfl) (aRA z.1 z.2.1 r h)⟩
theorem aKn:FOk Tryz.prog 86 cfieldsS:=fk (cx [(94,concatTS),(134,cupS)] [] 26 [2]) ⟨[(4,(3,[.val 1 ((.int .i64)) false,.val 5 (bV) false]))],[],[],[]⟩ ⟨aEz,aRB,trivial⟩ Tryz.func86 fun z r _ h=>(aSv z.1 z.2.1 r h).elim fun k hk=>⟨k,.trans (by kernel_rfl) hk⟩
theorem aRG:FOk Tryz.prog 43 csizeS:=fk (cx [(86,cfieldsS)] [] 10 [2]) A0 ⟨aKn,trivial⟩ Tryz.func43 fun z r _ h=>⟨0,.trans (by kernel_rfl) (aRF z.1 z.2.1 r h)⟩
theorem aSc:FOk Tryz.prog 140 clocalS:=fk (cx [] [] 40 [2,4]) A0 trivial Tryz.func140 fun z r _ h=>⟨0,.trans (by kernel_rfl) (aSb z.1 z.2.1 r h)⟩
theorem aOT:FOk Tryz.prog 184 numIsS:=fk (cx [] [] 9 []) A0 trivial Tryz.func184 fun z r _ h=>⟨0,.trans (by kernel_rfl) ((aOS z.1).trans h)⟩
theorem aQH:FOk Tryz.prog 182 fnumberS:=fk (cx [] [] 2 [0]) A0 trivial Tryz.func182 fun z r _ h=>⟨0,.trans (by kernel_rfl) h⟩
theorem aQ6:FOk Tryz.prog 183 farrayS:=fk (cx [] [] 2 [0]) A0 trivial Tryz.func183 fun z r _ h=>⟨0,.trans (by kernel_rfl) h⟩
theorem aQG:FOk Tryz.prog 141 fobjectS:=fk (cx [] [] 5 [2]) A0 trivial Tryz.func141 fun z r _ h=>⟨0,.trans (by kernel_rfl) h⟩
theorem aQB:FOk Tryz.prog 181 fplain1S:=fk (cx [] [] 4 []) A0 trivial Tryz.func181 fun z r _ h=>⟨0,.trans (by kernel_rfl) h⟩
theorem aQF:FOk Tryz.prog 139 fof1S:=fk (cx [] [] 5 [1]) A0 trivial Tryz.func139 fun z r _ h=>⟨0,.trans (by kernel_rfl) h⟩
theorem aQ5:FOk Tryz.prog 142 fcalledS:=fk (cx [(94,concatTS)] [] 24 [2,4,5]) A0 ⟨aEz,trivial⟩ Tryz.func142 fun z r _ h=>⟨0,.trans (by kernel_rfl) (aQ4 z.1 z.2.1 r h)⟩
theorem aQA:FOk Tryz.prog 138 fplainS:=fk (cx [(181,fplain1S),(182,fnumberS),(183,farrayS),(184,numIsS)] [] 118 [2,5]) A0 ⟨aQB,aQH,aQ6,aOT,trivial⟩ Tryz.func138 fun z r _ h=>⟨0,.trans (by kernel_rfl) ((aQz z.1).trans h)⟩
theorem aQE:FOk Tryz.prog 95 fofS:=fk (cx [(86,cfieldsS),(88,cslotS),(138,fplainS),(139,fof1S),(140,clocalS),(141,fobjectS),(142,fcalledS)] [] 163 [3,4,6,7,8]) ⟨[],[],[(14,[[],[0],[0],[0],[],[0,1,2,3,4],[0,1,2,3,4,5],[0,1,2,3,4,5,6],[0,1,2,3,4,5,6],[5],[0,1,2,3,4,5,6,7,8,9],[0,1,2,3,4,5,6,7,8,9],[5],[5],[],[],[]]),(16,[[],[],[],[0,1,2],[0,1,2,3],[0,1,2,3],[],[0,1,2,3,4,5,6],[0,1,2,3,4,5,6],[],[],[],[],[]]),(25,[[],[],[0,1],[],[],[0,1,2,3,4],[0,1,2,3,4,5],[0,1,2,3,4,5],[0,1,2,3,4,5],[0,1,2,3,4],[],[]]),(27,[[],[0],[],[0,1,2],[0,1,2,3],[0,1,2,3],[3],[],[],[]])],[]⟩ ⟨aKn,aJN,aQA,aQF,aSc,aQG,aQ5,trivial⟩ Tryz.func95 fun z r _ h=>⟨0,.trans (by kernel_rfl) (aQC z.1 z.2.1 z.2.2.1 r h)⟩
theorem aQ1:FOk Tryz.prog 96 ffitsS:=fk (cx [(143,kisrefS),(144,ksubS)] [] 33 [4,6,7]) A0 ⟨aIu,aPU,trivial⟩ Tryz.func96 fun z r _ h=>⟨0,.trans (by kernel_rfl) ((aQ0 z.1 z.2.1 z.2.2.1 z.2.2.2.1).trans h)⟩
theorem aQJ:FOk Tryz.prog 92 fnextsS:=fk (cx [] [] 24 [2]) A0 trivial Tryz.func92 fun z r _ h=>⟨0,.trans (by kernel_rfl) ((aQI z.1 z.2.1).trans h)⟩
theorem aIW:FOk Tryz.prog 49 fstepS:=fk (cx [(92,fnextsS),(93,containsIS),(94,concatTS),(95,fofS),(96,ffitsS)] [] 130 [4,11,12,15]) ⟨[(16,(5,[.val 9 (aZ) false,.val 104 ((.int .i64)) false]))],[],[(18,[[],[0],[0],[0,1,2],[0,1,2,3],[0,1,2,3,4],[0,1,2,3],[0,1,2],[0,1,2],[0,1,2,3,4,5,6,7,8],[],[]]),(21,[[],[0],[],[0,1,2],[0,1,2],[],[],[0,1,2,3,4,5,6],[7],[],[]])],[(21,[0,1,2,3,4,5,6,8,7,9,10])]⟩ ⟨aQJ,aJR,aEz,aQE,aQ1,trivial⟩ Tryz.func49 fun z r _ h=>(aQu z.1 z.2.1 z.2.2.1 z.2.2.2.1 r h).elim fun k hk=>⟨k,.trans (by kernel_rfl) hk⟩
theorem aRx:FOk Tryz.prog 112 cyc1S:=fk (cx [(93,containsIS)] [] 7 []) A0 ⟨aJR,trivial⟩ Tryz.func112 fun z r hl h=>⟨0,.trans (by kernel_rfl) ((aRw z.1 z.2.1 hl).trans h)⟩
theorem aQh:FOk Tryz.prog 85 indexCycS:=fk (cx [(112,cyc1S)] [] 19 []) ⟨[(2,(5,[.val 8 ((.int .i64)) false]))],[],[],[]⟩ ⟨aRx,trivial⟩ Tryz.func85 fun z r hl h=>(aQg z.1 z.2.1 hl).elim fun k hk=>⟨k,.trans (by kernel_rfl) (hk.trans h)⟩
theorem aRR:FOk Tryz.prog 41 containsCycS:=fk (cx [(114000085,indexCycS)] [] 9 []) A0 ⟨aQh,trivial⟩ Tryz.func41 fun z r hl h=>⟨0,.trans (by kernel_rfl) ((aRQ z.1 z.2.1 hl).trans h)⟩
theorem aRu:FOk Tryz.prog 59 cyclicS:=fk {cx [(114000041,containsCycS)] [] 28 [3] with thaws:=[1000003] } ⟨[(2,(6,[.val 9 ((.int .i64)) false]))],[],[],[]⟩ ⟨aRR,trivial⟩ Tryz.func59 fun z r _ h=>(aRt z.1 z.2.1 r h).elim fun k hk=>⟨k,.trans (by kernel_rfl) hk⟩
theorem aO3:FOk Tryz.prog 132 mul64S:=fk (cx [] [] 51 []) A0 trivial Tryz.func132 fun z r _ h=>⟨0,.trans (by kernel_rfl) (aO2 z.1 z.2.1 r h)⟩
theorem aDS:FOk Tryz.prog 82 lofS:=fk (cx [] [] 11 [2]) A0 trivial Tryz.func82 fun z r _ h=>⟨0,.trans (by kernel_rfl) ((aPG z.1).trans h)⟩
theorem aPA:FOk Tryz.prog 133 lsizeS:=fk (cx [] [] 10 []) A0 trivial Tryz.func133 fun z r _ h=>⟨0,.trans (by kernel_rfl) ((aPz z.1).trans h)⟩
theorem aPC:FOk Tryz.prog 83 lplusS:=fk (cx [(82,lofS)] [] 20 [2,3,4]) A0 ⟨aDS,trivial⟩ Tryz.func83 fun z r _ h=>⟨0,.trans (by kernel_rfl) (aPB z.1 z.2.1 r h)⟩
theorem aPy:FOk Tryz.prog 84 ltimesS:=fk (cx [(82,lofS),(132,mul64S),(133,lsizeS)] [] 39 [2,3,4]) ⟨[],[],[(3,[[],[],[],[0,1,2],[0,1,2],[],[],[],[],[8],[9],[]])],[(3,[0,1,2,3,4,5,6,7,8,10,9,11])]⟩ ⟨aDS,aO3,aPA,trivial⟩ Tryz.func84 fun z r _ h=>⟨0,.trans (by kernel_rfl) (aPx z.1 z.2.1 r h)⟩
theorem aPN:FOk Tryz.prog 40 lholdsS:=fk (cx [(82,lofS),(83,lplusS),(84,ltimesS)] [] 43 [2,6]) ⟨[(5,(4,[.val 19 ((.int .i64)) false,.box 6 130 [((.int .i64),false),(.bool,false)]]))],[],[(7,[[],[0],[0],[0,1,2],[0,1,2,3],[0,1,2],[0,1,2],[0],[0],[],[]])],[]⟩ ⟨aDS,aPC,aPy,trivial⟩ Tryz.func40 fun z r _ h=>(aPM z.1 z.2.1 r h).elim fun k hk=>⟨k,.trans (by kernel_rfl) hk⟩
theorem aG4:FOk Tryz.prog 48 pshapeS:=fk (cx [] [] 28 [6]) A0 trivial Tryz.func48 fun z r _ h=>⟨0,.trans (by kernel_rfl) (aOd z.1 z.2.1 z.2.2.1 r h)⟩
theorem aDj:FOk Tryz.prog 17 pcostS:=fk (cx [(43,csizeS),(44,ctargetsS)] [] 50 [2,3]) ⟨[(8,(5,[.val 5 ((.int .i64)) false,.val 27 ((.int .i64)) false]))],[],[],[]⟩ ⟨aRG,aJJ,trivial⟩ Tryz.func17 fun z r _ h=>(aOv z.1 z.2.1 r h).elim fun k hk=>⟨k,.trans (by kernel_rfl) hk⟩
theorem aOg:FOk Tryz.prog 47 prowS:=fk {cx [] [] 33 [2008000,8,11,2009000,9] with rows:=[11],thaws:=[32],lnks:=[(49,[0])] } A0 trivial Tryz.func47 fun z r _ h=>⟨0,.trans (by kernel_rfl) (aOf z.1 z.2.1 z.2.2.1 z.2.2.2.1 r h)⟩
theorem aG6:FOk Tryz.prog 19 prulesS:=fk (cx [(17,pcostS),(47,prowS),(48,pshapeS),(49,fstepS),(50,clipQS)] [81,94] 110 [3,10,11]) ⟨[(6,(14,[.val 8 (rW) true,.val 54 ((.int .i64)) false])),(15,(4,[.val 8 (rW) true,.val 90 ((.int .i64)) false]))],[(12,(2,[.val 8 (rW) true]))],[],[]⟩ ⟨aDj,aOg,aG4,aIW,aSi,trivial⟩ Tryz.func19 fun z r _ h=>(aOe z.1 z.2.1 z.2.2.1 r h).elim fun k hk=>⟨k,.trans (by kernel_rfl) hk⟩
theorem aOo:FOk Tryz.prog 42 pnegS:=fk (cx [] [] 5 []) A0 trivial Tryz.func42 fun z r _ h=>⟨0,.trans (by kernel_rfl) h⟩
theorem aP9:FOk Tryz.prog 85 indexNegS:=fk (cx [(42,pnegS)] [] 19 []) ⟨[(2,(5,[.val 8 ((.int .i64)) false]))],[],[],[]⟩ ⟨aOo,trivial⟩ Tryz.func85 fun z r hl h=>(aP8 z.1 z.2.1 hl).elim fun k hk=>⟨k,.trans (by kernel_rfl) (hk.trans h)⟩
theorem aRM:FOk Tryz.prog 41 containsNegS:=fk (cx [(44000085,indexNegS)] [] 9 []) A0 ⟨aP9,trivial⟩ Tryz.func41 fun z r hl h=>⟨0,.trans (by kernel_rfl) ((aRL z.1 z.2.1 hl).trans h)⟩
theorem aOx:FOk Tryz.prog 15 pcheckS:=fk (cx [(19,prulesS),(40,lholdsS),(44000041,containsNegS)] [] 49 [2,7,9]) ⟨[(2,(12,[.val 15 ((.int .i64)) false])),(5,(6,[.val 25 ((.int .i64)) false]))],[],[],[]⟩ ⟨aG6,aPN,aRM,trivial⟩ Tryz.func15 fun z r _ h=>(aOw z.1 z.2.1 r h).elim fun k hk=>⟨k,.trans (by kernel_rfl) hk⟩
theorem aGX:FOk Tryz.prog 18 r14costS:=fk (cx [(45,r5fieldsS),(46,r8targetsS)] [] 53 [2,3]) ⟨[(8,(4,[.val 5 ((.int .i64)) false,.val 7 ((.int .i64)) false]))],[],[(10,[[],[],[0,1],[0,1,2],[0,1],[0,1],[],[],[],[0,1,2,3,4,5,6,7,8],[]]),(11,[[],[],[0,1],[0,1,2],[0,1],[0,1],[],[],[],[]])],[]⟩ ⟨aA1,aGz,trivial⟩ Tryz.func18 fun z r _ h=>(aOa z.1 z.2.1 r h).elim fun k hk=>⟨k,.trans (by kernel_rfl) hk⟩
theorem aSk:FOk Tryz.prog 105 clipMOS:=fk {cx [] [] 9 [0,8] with rows:=[1,8] } A0 trivial Tryz.func105 fun z r _ h=>⟨0,.trans (by kernel_rfl) ((aSj z.1).trans h)⟩
theorem aQl:FOk Tryz.prog 55 icopyHS:=fk {cx [(100,anTS),(101,anJS),(102,anIS),(103,anXS),(104,clipCS),(1000000000105,clipMOS)] [30,68] 83 [1,2002003,2,2003003,3,5,7,71,79] with rows:=[71],thaws:=[3000082],lnks:=[(28,[3])] } ⟨[(3,(4,[.val 25 ((.int .i64)) false,.box 3 28 [(lD,true),(bV,false),(jI,false),(.any,false),(aZ,false),((.int .i64),false),((.int .i64),false)]])),(8,(5,[.val 47 ((.int .i64)) false,.lnk 2003003 42 (iC)]))],[],[(1,[[],[],[],[0,1,2],[0,1,2],[],[0,1,2,3,4,5],[0,1,2,3,4,5],[],[0,1,2,3,4,5,6,7,8],[0,1,2,3,4,5,6,7,8],[0,1,2,3,4,5,6,7,8,9,10],[0,1,2,3,4,5,6,7,8,9,10],[],[0,1,2,3,4,5,6,7,8,9,10,11,12,13],[]]),(5,[[],[],[0,1],[0,1],[0,1,2,3],[0,1,2,3],[0,1,2,3],[0,1,2,3,4,5,6],[0,1,2,3,4,5,6],[0,1,2,3],[0,1],[0,1],[],[],[]]),(10,[[],[],[],[0,1,2],[0,1,2],[],[0,1,2,3,4,5],[0,1,2,3,4,5],[],[0,1,2,3,4,5,6,7,8],[0,1,2,3,4,5,6,7,8],[],[5,8,11],[],[],[],[],[],[],[]]),(13,[[],[],[],[0,1,2],[0,1,2],[],[5],[],[],[]])],[]⟩ ⟨aSV,aSX,aSY,aSU,aSs,aSk,trivial⟩ Tryz.func55 fun z r _ h=>(aQk z.1 r h).elim fun k hk=>⟨k,.trans (by kernel_rfl) hk⟩
theorem aRY:FOk Tryz.prog 56 cofLS:=fk {cx [(44,ctargetsS),(1000000000106,sortIS),(1000000000107,clipIOS),(1000000000108,compactIS)] [28] 39 [2,4,5,7,32,37,38] with rows:=[4,5,32,37] } ⟨[(5,(4,[.own 5 3 ((.int .i64)),.val 24 ((.int .i64)) false]))],[],[],[]⟩ ⟨aJJ,aFM,aJ9,aRW,trivial⟩ Tryz.func56 fun z r _ h=>(aRX z.1 z.2.1 r h).elim fun k hk=>⟨k,.trans (by kernel_rfl) hk⟩
theorem aPq:FOk Tryz.prog 111 maxL15S:=fk (cx [] [] 25 []) ⟨[(5,(3,[.val 3 ((.int .i64)) false,.val 4 ((.int .i64)) false]))],[],[],[]⟩ trivial Tryz.func111 fun z r _ h=>(aPp z.1 r h).elim fun k hk=>⟨k,.trans (by kernel_rfl) hk⟩
theorem aOq:FOk Tryz.prog 58 pleastS:=fk {cx [(17,pcostS),(48,pshapeS),(49,fstepS),(2000000000111,maxL15S)] [] 93 [3,6,28,12,13] with rows:=[6,28],thaws:=[4000089] } ⟨[(4,(19,[.val 32 ((.int .i64)) false,.row 28 3 ((.int .i64))])),(7,(13,[.val 10 (.bool) false,.val 36 ((.int .i64)) false,.row 28 3 ((.int .i64))])),(13,(6,[.val 10 (.bool) false,.val 60 ((.int .i64)) false,.row 28 3 ((.int .i64))]))],[],[(15,[[],[0],[],[0,1,2],[0,1,2,3],[0,1,2],[0,1,2],[],[]])],[]⟩ ⟨aDj,aG4,aIW,aPq,trivial⟩ Tryz.func58 fun z r _ h=>(aOp z.1 z.2.1 z.2.2.1 r h).elim fun k hk=>⟨k,.trans (by kernel_rfl) hk⟩
theorem aHd:FOk Tryz.prog 23 pfillS:=fk {cx [(55,icopyHS),(57,ringsS),(59,cyclicS),(2000000000056,cofLS),(2000000000058,pleastS)] [25] 106 [2,4,18,2002003,28,54] with thaws:=[28,105,1000063,2000004,2000059,2000102,3000026,3000051],lnks:=[(28,[3])] } ⟨[(4,(5,[.val 6 (jH) true,.val 22 ((.int .i64)) false,.lnk 2002003 42 (iC)])),(10,(20,[.val 40 ((.int .i64)) false,.lnk 2002003 42 (iC)])),(13,(7,[.val 46 ((.int .i64)) false,.lnk 2002003 42 (iC)])),(21,(8,[.val 69 ((.int .i64)) false,.lnk 2002003 42 (iC)]))],[(23,(3,[.lnk 2002003 42 (iC)]))],[(25,[[],[],[0,1],[0,1,2],[0,1,2],[0,1,2],[],[],[]])],[]⟩ ⟨aQl,aNf,aRu,aRY,aOq,trivial⟩ Tryz.func23 fun z r _ h=>(aOt z.1 z.2.1 r h).elim fun k hk=>⟨k,.trans (by kernel_rfl) hk⟩
theorem aMG:FOk Tryz.prog 37 sane15S:=fk (cx [(39,r5saneS)] [] 24 [1]) A0 ⟨aGL,trivial⟩ Tryz.func37 fun z r _ h=>⟨0,.trans (by kernel_rfl) ((aMF z.1).trans h)⟩
theorem aLb:FOk Tryz.prog 13 typed15S:=fk (cx [(37,sane15S),(38,r8allS)] [] 17 [1]) A0 ⟨aMG,aGF,trivial⟩ Tryz.func13 fun z r _ h=>⟨0,.trans (by kernel_rfl) h⟩
theorem aSL:FOk Tryz.prog 14 awake15S:=fk (cx [(15,pcheckS),(17,pcostS),(18,r14costS),(19,prulesS),(23,pfillS),(38,r8allS),(39,r5saneS)] [] 121 [1,6]) ⟨[],[],[(6,[[],[],[],[],[],[],[],[],[],[],[],[],[],[],[],[],[],[],[],[],[],[],[],[],[],[],[],[],[],[],[],[],[],[],[],[],[],[],[],[],[],[],[],[42],[42],[42],[42],[42],[42],[42],[],[],[],[],[],[54],[],[],[],[],[],[],[],[],[],[],[],[66],[66],[66],[66],[66],[66],[66],[],[],[],[]])],[]⟩ ⟨aOx,aDj,aGX,aG6,aHd,aGF,aGL,trivial⟩ Tryz.func14 fun z r _ h=>⟨0,.trans (by kernel_rfl) h⟩
theorem aOm (hl:∀z,xG Tryz.prog aA7 z→∃k,aDe k z.1=some (true,())):FOk Tryz.prog 7 potRingsS:=fk {cx [(13,typed15S),(14,awake15S),(18,r14costS),(21,r8stepS),(23,pfillS),(25,r8waysS),(26,r8edgesS)] [] 134 [1,5,54] with rows:=[54],thaws:=[1000088] } ⟨[(11,(16,[.val 8 ((.int .i64)) false])),(15,(4,[.val 10 ((.int .i64)) false,.row 54 26 (aZ)])),(21,(4,[.val 12 ((.int .i64)) false]))],[],[(18,[[],[0],[0,1],[0,1,2],[0,1,2,3],[0,1,2,3,4],[0,1,2,3,4,5],[0,1,2,3,4],[0,1,2,3,4],[0,1,2,3,4,5,6,7,8],[0,1,2,3,4],[0,1,2,3,4],[0,1,2,3,4],[0,1],[0,1],[0,1],[0,1,15],[0,1,15,16],[17],[17]]),(23,[[],[0],[],[],[0,1,2,3],[],[],[],[],[8],[8],[8,9,10],[8],[8],[8],[8,9,10,11,12,13,14],[8],[8],[],[],[]])],[(18,[0,1,2,3,4,5,6,7,8,9,10,11,12,13,14,15,16,19,17,18])]⟩ ⟨aLb,aSL,aGX,aGB,aHd,aNv,aNE,trivial⟩ Tryz.func7 fun z r _ h=>by
 by_cases hw:xG Tryz.prog aA7 z
 ·obtain⟨k,hk⟩:=hl z hw
  exact⟨k,.trans (by kernel_rfl) (hk.trans ((if_pos hw).symm.trans h))⟩
 ·exact absurd ((if_neg hw).symm.trans h) (by intro h;cases h)
end
end Go.Pli
