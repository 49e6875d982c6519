import Derived.Test.YtcofionghgmldaaGreatPliLaw
import Derived.Test.YtcofionghgmldaaGreatPMSort
import Derived.Test.YtcofionghgmldaaGreatPliReach
import Derived.Test.YtcofionghgmldaaGreatPliLib13
import Derived.Test.YtcofionghgmldaaGreatPMKit
import Derived.Test.YtcofionghgmldaaGreatPMSaid
import Derived.Test.YtcofionghgmldaaGreatProg
import Derived.KernelRfl
namespace Go.Pli
open Go Go.PM
open Go.Proofs
abbrev dP:Ty:= .pair (.int .i64) (.pair (.int .i64) .unit)
abbrev bM:Ty:= .sl 39 dP
abbrev iR:Ty:= .sl 21 (.int .i32)
abbrev aZ:Ty:= .sl 3 (.int .i64)
abbrev lJ:Ty:= .pair (.int .i64) dP
abbrev kG:Ty:= .sl 45 lJ
abbrev kI:Ty:= .sl 26 aZ
abbrev tQ:Ty:= .pair .bool (.pair bM .unit)
abbrev aB2:Ty:= .sl 52 tQ
abbrev mM:Ty:= .sl 53 aB2
abbrev aAc:Ty:= .pair aZ (.pair (.int .i64) .unit)
abbrev rD:Ty:= .sl 49 aAc
abbrev aEp:Ty:= .pair (.int .i64) (.pair bM (.pair aZ .unit))
abbrev kH:Ty:= .sl 106 aEp
abbrev gP:Ty:= .pair bM (.pair bM (.pair dP (.pair kG (.pair (.int .i64) (.pair (.int .i64) (.pair aZ .unit))))))
abbrev aEq:Ty:= .sl 42 gP
abbrev cY:Ty:= .pair kH (.pair bM (.pair iR (.pair aEq (.pair aZ dP))))
abbrev aEr:Ty:= .sl 23 bM
abbrev aKc:Ty:= .pair kH (.pair bM (.pair iR (.pair (.osl 42 gP) (.pair aZ dP))))
abbrev aEs:Ty:= .sl 4 .bool
abbrev aKd:Ty:= .sl 188 dP
def A0:Ann:=⟨[],[],[],[]⟩
def TY:List (TypeId×Ty):=[(3,(.int .i64)),(4,.bool),(22,kH),(23,bM),(24,iR),(25,aEq),(26,aZ),(28,cY),(29,mM),(39,dP),(40,kG),(42,gP),(45,lJ),(46,rD),(49,aAc),(52,tQ),(53,aB2),(64,kI),(66,aEs),(106,aEp),(130,(.pair (.int .i64) (.pair .bool .unit))),(141,(.pair bM (.pair bM .unit))),(155,(.pair kI (.pair aZ (.pair aZ (.pair aEs (.pair aZ (.pair (.int .i64) (.pair kI .unit)))))))),(172,(.int .u64)),(178,aEr),(188,dP),(189,aKd)]
theorem aRN:aB8 Tryz.prog TY=true:=by kernel_rfl
def cx (fns:List (FuncId×FSpec)) (tips:List Nat) (n:Nat) (bxs:List Nat):Ctx:={ty:=TY,fns:=fns,tips:=tips,n:=n,bxs:=bxs,ptrs:=[] }
theorem fk (G:Ctx) {f:FuncId} {fn:Func} (A:Ann) {S:FSpec} (h3:FnsOk Tryz.prog G.fns) (hf:Tryz.prog.funcs[f]? =some fn) (h:∀z r,aBW S.ps z→S.run z=some r→∃k,aBj G A k fn S.ps S.rs z=some r) (h1:G.ty=TY:=by rfl) (h2:G.ptrs.all (aCB Tryz.prog)=true:=by kernel_rfl) (hb:fn.body.isSome=true:=by kernel_rfl) (hn:(fn.name=="runtime.NumGoroutine")=false:=by kernel_rfl) (h4:G.sets.all (aCi Tryz.prog)=true:=by rfl):FOk Tryz.prog f S:=fok (aQm (by rw[h1];exact aRN) h2 h3 h4) hf hb hn h
noncomputable section
def rinS:FSpec:=⟨[.val (aZ),.val ((.int .i64))],[.val (.bool)],fun z=>rin z.1 z.2.1⟩
def rargsS:FSpec:=⟨[.val ((.int .i64))],[.val ((.int .i64))],fun z=>some (pS z.1,())⟩
def rinstrS:FSpec:=⟨[.val (lJ)],[.val (.bool)],fun z=>some (xO z.1,())⟩
def clipCS:FSpec:=⟨[.val (kH)],[.val (kH)],fun z=>some (idL z.1,())⟩
def clipTS:FSpec:=⟨[.val (bM)],[.val (bM)],fun z=>some (idL z.1,())⟩
def clipIS:FSpec:=⟨[.val (aZ)],[.val (aZ)],fun z=>some (idL z.1,())⟩
def clipXS:FSpec:=⟨[.val (kG)],[.val (kG)],fun z=>some (idL z.1,())⟩
def clipJS:FSpec:=⟨[.val (iR)],[.val (iR)],fun z=>some (idL z.1,())⟩
def cloneTS:FSpec:=⟨[.val (bM)],[.val (bM)],fun z=>aBy z.1⟩
def cloneJS:FSpec:=⟨[.val (iR)],[.val (iR)],fun z=>aBz z.1⟩
def cloneIS:FSpec:=⟨[.val (aZ)],[.val (aZ)],fun z=>aBA z.1⟩
def cloneXS:FSpec:=⟨[.val (kG)],[.val (kG)],fun z=>aBx z.1⟩
def anTS:FSpec:=⟨[.val (bM)],[.val (bM)],fun z=>tD z.1⟩
def anJS:FSpec:=⟨[.val (iR)],[.val (iR)],fun z=>aBP z.1⟩
def anIS:FSpec:=⟨[.val (aZ)],[.val (aZ)],fun z=>wK z.1⟩
def anXS:FSpec:=⟨[.val (kG)],[.val (kG)],fun z=>aBN z.1⟩
def kisrefS:FSpec:=⟨[.val (dP)],[.val (.bool)],fun z=>some (hY z.1,())⟩
def kupS:FSpec:=⟨[.val (kH),.val ((.int .i64))],[.val ((.int .i64))],fun z=>some (kup z.1 z.2.1,())⟩
def kbelowS:FSpec:=⟨[.val (kH),.val ((.int .i64)),.val ((.int .i64))],[.val (.bool)],fun z=>some (dD z.1 z.2.1 z.2.2.1,())⟩
def ksubS:FSpec:=⟨[.val (kH),.val (dP),.val (dP)],[.val (.bool)],fun z=>some (cH z.1 z.2.1 z.2.2.1,())⟩
def raboveS:FSpec:=⟨[.val (kH),.val ((.int .i64))],[.val (aZ)],fun z=>iU z.1 z.2.1⟩
def risrefS:FSpec:=⟨[.val (dP)],[.val (.bool)],fun z=>some (rP z.1,())⟩
def rgoodS:FSpec:=⟨[.val (dP),.val ((.int .i64))],[.val (.bool)],fun z=>some (rR z.1 z.2.1,())⟩
def rsubS:FSpec:=⟨[.val (kH),.val (dP),.val (dP)],[.val (.bool)],fun z=>lO z.1 z.2.1 z.2.2.1⟩
def rtypesS:FSpec:=⟨[.val (bM),.val (bM)],[.val (.bool)],fun z=>some (uB z.1 z.2.1,())⟩
def r5inS:FSpec:=⟨[.val ((.int .i64)),.val ((.int .i64)),.val ((.int .i64))],[.val (.bool)],fun z=>some (hC z.1 z.2.1 z.2.2.1,())⟩
def r5listS:FSpec:=⟨[.val (aZ),.val ((.int .i64)),.val ((.int .i64))],[.val (.bool)],fun z=>some (oG z.1 z.2.1 z.2.2.1,())⟩
def r5typS:FSpec:=⟨[.val (dP)],[.val (.bool)],fun z=>some (pT z.1,())⟩
def r5typesS:FSpec:=⟨[.val (bM),.val ((.int .i64))],[.val (.bool)],fun z=>some (lQ z.1 z.2.1,())⟩
def r5fitsS:FSpec:=⟨[.val (cY)],[.val (.bool)],fun z=>some (rU z.1,())⟩
def r5fieldsS:FSpec:=⟨[.val (cY),.val ((.int .i64))],[.tip (bM)],fun z=>iI z.1 z.2.1⟩
def r5goodS:FSpec:=⟨[.val (cY),.val (bM)],[.val (.bool)],fun z=>some (mX z.1 z.2.1,())⟩
def r5classS:FSpec:=⟨[.val (cY),.val ((.int .i64))],[.val (.bool)],fun z=>uN z.1 z.2.1⟩
def r5namedS:FSpec:=⟨[.val (cY),.val (gP),.val (lJ)],[.val (.bool)],fun z=>uL z.1 z.2.1 z.2.2.1⟩
def r5methodS:FSpec:=⟨[.val (cY),.val (gP)],[.val (.bool)],fun z=>uM z.1 z.2.1⟩
def r5saneS:FSpec:=⟨[.val (cY)],[.val ((.int .i64))],fun z=>some (rT z.1,())⟩
def sortIS:FSpec:=⟨[.own 3 ((.int .i64))],[],fun z=>some (xG z.1)⟩
def compactIS:FSpec:=⟨[.take 3 ((.int .i64))],[.own 3 ((.int .i64))],fun z=>some (dT z.1,())⟩
def cbelowS:FSpec:=⟨[.val (cY),.val ((.int .i64))],[.val (aZ)],fun z=>wC z.1 z.2.1⟩
def cslotS:FSpec:=⟨[.val (cY),.val ((.int .i64)),.val ((.int .i64))],[.val ((.int .i64)),.val (.bool)],fun z=>some (dN z.1 z.2.1 z.2.2.1)⟩
def ctargetsS:FSpec:=⟨[.val (cY),.val (lJ)],[.tip (aZ)],fun z=>oZ z.1 z.2.1⟩
def r5belowS:FSpec:=⟨[.val (cY),.val ((.int .i64))],[.tip (aZ)],fun z=>uO z.1 z.2.1⟩
def r5slotS:FSpec:=⟨[.val (cY),.val ((.int .i64)),.val ((.int .i64))],[.val ((.int .i64)),.val (.bool)],fun z=>some (xX z.1 z.2.1 z.2.2.1)⟩
def r8targetsS:FSpec:=⟨[.val (cY),.val (lJ)],[.tip (aZ)],fun z=>uF z.1 z.2.1⟩
def fenterS:FSpec:=⟨[.box 155 ((.pair kI (.pair (.osl 3 (.int .i64)) (.pair (.osl 3 (.int .i64)) (.pair (.osl 4 .bool) (.pair (.osl 3 (.int .i64)) (.pair (.int .i64) (.pair (.osl 26 aZ) .unit)))))))),.val ((.int .i64))],[],fun z=>vW z.1 z.2.1⟩
def fleaveS:FSpec:=⟨[.box 155 ((.pair kI (.pair (.osl 3 (.int .i64)) (.pair (.osl 3 (.int .i64)) (.pair (.osl 4 .bool) (.pair (.osl 3 (.int .i64)) (.pair (.int .i64) (.pair (.osl 26 aZ) .unit)))))))),.val ((.int .i64))],[],fun z=>vT z.1 z.2.1⟩
def ffromS:FSpec:=⟨[.box 155 ((.pair kI (.pair (.osl 3 (.int .i64)) (.pair (.osl 3 (.int .i64)) (.pair (.osl 4 .bool) (.pair (.osl 3 (.int .i64)) (.pair (.int .i64) (.pair (.osl 26 aZ) .unit)))))))),.val ((.int .i64))],[],fun z=>vV z.1 z.2.1⟩
def clipIOS:FSpec:=⟨[.take 3 ((.int .i64))],[.own 3 ((.int .i64))],fun z=>some (idL z.1,())⟩
def clipIIOS:FSpec:=⟨[.take 26 (aZ)],[.own 26 (aZ)],fun z=>some (idL z.1,())⟩
def ringsS:FSpec:=⟨[.val (kI)],[.val (kI)],fun z=>jS z.1⟩
def r5localS:FSpec:=⟨[.val (gP),.val ((.int .i64))],[.val (dP)],fun z=>xZ z.1 z.2.1⟩
def rjoinS:FSpec:=⟨[.val (kH),.val (dP),.val (dP)],[.val (dP)],fun z=>uD z.1 z.2.1 z.2.2.1⟩
def r8givesS:FSpec:=⟨[.val (gP)],[.val (bM)],fun z=>uI z.1⟩
def r8ruleS:FSpec:=⟨[.val (cY),.val ((.int .i64)),.val (lJ)],[.val (bM),.val (bM)],fun z=>xW z.1 z.2.1 z.2.2.1⟩
def r8stepS:FSpec:=⟨[.val (cY),.val ((.int .i64)),.val ((.int .i64)),.val (bM)],[.val (bM),.val (aZ),.val ((.int .i64))],fun z=>oF z.1 z.2.1 z.2.2.1 z.2.2.2.1⟩
def r8shapesS:FSpec:=⟨[.val (cY),.val ((.int .i64))],[.val (aB2),.val (.bool)],fun z=>uH z.1 z.2.1⟩
def r8allS:FSpec:=⟨[.val (cY)],[.val (mM),.val ((.int .i64))],fun z=>jT z.1⟩
def growTS:FSpec:=⟨[.nilp true,.val ((.int .i64))],[.own 39 (dP)],fun z=>vR z.1 z.2.1⟩
def concatTS:FSpec:=⟨[.val (aEr)],[.val (bM)],fun z=>nR z.1⟩
def indexIS:FSpec:=⟨[.val (aZ),.val ((.int .i64))],[.val ((.int .i64))],fun z=>some (aBb z.1 z.2.1,())⟩
def containsIS:FSpec:=⟨[.val (aZ),.val ((.int .i64))],[.val (.bool)],fun z=>some (wA z.1 z.2.1,())⟩
def clipQS:FSpec:=⟨[.val (rD)],[.val (rD)],fun z=>some (idL z.1,())⟩
def cupS:FSpec:=⟨[.val (cY),.val ((.int .i64))],[.val ((.int .i64))],fun z=>cup z.1 z.2.1⟩
def cfieldsS:FSpec:=⟨[.val (cY),.val ((.int .i64))],[.val (bM)],fun z=>pA z.1 z.2.1⟩
def csizeS:FSpec:=⟨[.val (cY),.val ((.int .i64))],[.val ((.int .i64))],fun z=>vZ z.1 z.2.1⟩
def clocalS:FSpec:=⟨[.val (gP),.val ((.int .i64))],[.val (dP)],fun z=>sZ z.1 z.2.1⟩
def numIsS:FSpec:=⟨[.val ((.int .i64))],[.val (.bool)],fun z=>some (lT z.1,())⟩
def fnumberS:FSpec:=⟨[],[.val (dP)],fun _=>some (iK,())⟩
def farrayS:FSpec:=⟨[],[.val (dP)],fun _=>some (vX,())⟩
def fobjectS:FSpec:=⟨[.val ((.int .i64))],[.val (dP)],fun z=>some (mH z.1,())⟩
def fplain1S:FSpec:=⟨[.val (bM)],[.val (bM)],fun z=>some (gE z.1,())⟩
def fof1S:FSpec:=⟨[.val (dP)],[.val (bM)],fun z=>some (fI z.1,())⟩
def fcalledS:FSpec:=⟨[.val (gP),.val (bM)],[.val ((.pair bM (.pair bM .unit)))],fun z=>sS z.1 z.2.1⟩
def fplainS:FSpec:=⟨[.val ((.int .i64))],[.val ((.pair bM (.pair bM .unit))),.val (.bool)],fun z=>some (eK z.1)⟩
def fofS:FSpec:=⟨[.val (cY),.val (lJ),.val ((.int .i64))],[.val ((.pair bM (.pair bM .unit)))],fun z=>fof z.1 z.2.1 z.2.2.1⟩
def ffitsS:FSpec:=⟨[.val (cY),.val ((.int .i64)),.val (dP),.val (dP)],[.val (.bool)],fun z=>some (dZ z.1 z.2.1 z.2.2.1 z.2.2.2.1,())⟩
def fnextsS:FSpec:=⟨[.val (lJ),.val ((.int .i64))],[.val (aZ)],fun z=>some (dW z.1 z.2.1,())⟩
def fstepS:FSpec:=⟨[.val (cY),.val ((.int .i64)),.val ((.int .i64)),.val (bM)],[.val (bM),.val (aZ),.val ((.int .i64))],fun z=>oV z.1 z.2.1 z.2.2.1 z.2.2.2.1⟩
def cyc1S:FSpec:=⟨[.val ((.int .i64)),.cap (aZ)],[.val (.bool)],fun z=>some (sY z.1 z.2.1,())⟩
def indexCycS:FSpec:=⟨[.val (aZ),.val ((.clo 112 (.pair aZ .unit)))],[.val ((.int .i64))],fun z=>some (aBd z.1 z.2.1,())⟩
def containsCycS:FSpec:=⟨[.val (aZ),.val ((.clo 112 (.pair aZ .unit)))],[.val (.bool)],fun z=>some (zH z.1 z.2.1,())⟩
def cyclicS:FSpec:=⟨[.val (kI),.val (aZ)],[.val (.bool)],fun z=>sX z.1 z.2.1⟩
def mul64S:FSpec:=⟨[.val ((.int .u64)),.val ((.int .u64))],[.val ((.int .u64)),.val ((.int .u64))],fun z=>uY z.1 z.2.1⟩
def lofS:FSpec:=⟨[.val ((.int .i64))],[.val ((.pair (.int .i64) (.pair .bool .unit)))],fun z=>some (lof z.1,())⟩
def lsizeS:FSpec:=⟨[.val ((.int .i64))],[.val ((.int .u64))],fun z=>some (dS z.1,())⟩
def lplusS:FSpec:=⟨[.val ((.pair (.int .i64) (.pair .bool .unit))),.val ((.pair (.int .i64) (.pair .bool .unit)))],[.val ((.pair (.int .i64) (.pair .bool .unit)))],fun z=>yP z.1 z.2.1⟩
def ltimesS:FSpec:=⟨[.val ((.pair (.int .i64) (.pair .bool .unit))),.val ((.pair (.int .i64) (.pair .bool .unit)))],[.val ((.pair (.int .i64) (.pair .bool .unit)))],fun z=>yO z.1 z.2.1⟩
def lholdsS:FSpec:=⟨[.val (aAc),.val (aZ)],[.val (.bool),.val ((.int .i64))],fun z=>vK z.1 z.2.1⟩
def pshapeS:FSpec:=⟨[.val (mM),.val ((.int .i64)),.val ((.int .i64))],[.val (tQ)],fun z=>oH z.1 z.2.1 z.2.2.1⟩
def pcostS:FSpec:=⟨[.val (cY),.val (lJ)],[.val ((.int .i64))],fun z=>lR z.1 z.2.1⟩
def prowS:FSpec:=⟨[.val ((.int .i64)),.val ((.int .i64)),.val ((.int .i64)),.val ((.int .i64))],[.val (aAc)],fun z=>pU z.1 z.2.1 z.2.2.1 z.2.2.2.1⟩
def prulesS:FSpec:=⟨[.val (cY),.val (mM),.val ((.int .i64))],[.val (rD)],fun z=>rX z.1 z.2.1 z.2.2.1⟩
def pnegS:FSpec:=⟨[.val ((.int .i64))],[.val (.bool)],fun z=>some (aGh z.1,())⟩
def indexNegS:FSpec:=⟨[.val (aZ),.val ((.clo 42 .unit))],[.val ((.int .i64))],fun z=>some (aBa z.1 z.2.1,())⟩
def containsNegS:FSpec:=⟨[.val (aZ),.val ((.clo 42 .unit))],[.val (.bool)],fun z=>some (zG z.1 z.2.1,())⟩
def pcheckS:FSpec:=⟨[.val (cY),.val (mM)],[.val ((.int .i64)),.val ((.int .i64))],fun z=>kM z.1 z.2.1⟩
def r14costS:FSpec:=⟨[.val (cY),.val (lJ)],[.val ((.int .i64))],fun z=>rV z.1 z.2.1⟩
def r14potsS:FSpec:=⟨[.val (cY),.val (mM)],[.val ((.int .i64))],fun z=>uP z.1 z.2.1⟩
def clipMOS:FSpec:=⟨[.take 42 (gP)],[.own 42 (gP)],fun z=>some (idL z.1,())⟩
def icopyHS:FSpec:=⟨[.val (cY)],[.str (aKc)],fun z=>vP z.1⟩
def cofLS:FSpec:=⟨[.val (cY),.val ((.int .i64))],[.own 3 ((.int .i64))],fun z=>cof z.1 z.2.1⟩
def maxL15S:FSpec:=⟨[.val (aZ)],[.val ((.int .i64))],fun z=>vE z.1⟩
def pleastS:FSpec:=⟨[.val (cY),.val (mM),.val ((.int .i64))],[.own 3 ((.int .i64)),.val (.bool)],fun z=>rZ z.1 z.2.1 z.2.2.1⟩
def pfillS:FSpec:=⟨[.val (cY),.val (mM)],[.val (cY),.val (.bool)],fun z=>sA z.1 z.2.1⟩
def sane15S:FSpec:=⟨[.val (cY)],[.val (.bool)],fun z=>some (tZ z.1,())⟩
def typed15S:FSpec:=⟨[.val (cY)],[.val (mM),.val (.bool)],fun z=>wW z.1⟩
def awake15S:FSpec:=⟨[],[.val (.bool)],fun _=>awake15N⟩
def aAM:List Ty:=[cY]
noncomputable def potChecksS:FSpec:=⟨[.val (cY)],[.val (.bool)],fun z=>@ite _ (wL Tryz.prog aAM z) (Classical.propDecidable _) (some (true,())) none⟩
theorem aEY:FOk Tryz.prog 106 sortIS:=sort_fok 3 ⟨_,Tryz.func106,by kernel_rfl,by kernel_rfl⟩ Tryz.slices_Sort_int Tryz.slices_Sort_int_none
theorem aQF:FOk Tryz.prog 108 compactIS:=compact_fok 3 ⟨_,Tryz.func108,by kernel_rfl,by kernel_rfl⟩ Tryz.slices_Compact_int Tryz.slices_Compact_int_empty
theorem aAo:FOk Tryz.prog 99 rinS:=fk (cx [] [] 18 []) ⟨[(2,(4,[.val 5 ((.int .i64)) false]))],[],[],[]⟩ trivial Tryz.func99 fun z r _ h=>(aMi z.1 z.2.1 r h).elim fun k hk=>⟨k,.trans (by kernel_rfl) hk⟩
theorem aMs:FOk Tryz.prog 76 rargsS:=fk (cx [(99,rinS)] [] 24 []) A0 ⟨aAo,trivial⟩ Tryz.func76 fun z r _ h=>⟨0,.trans (by kernel_rfl) ((aMr z.1).trans h)⟩
theorem aMe:FOk Tryz.prog 70 rinstrS:=fk (cx [(76,rargsS)] [] 45 [1]) ⟨[],[(2,(2,[]))],[],[]⟩ ⟨aMs,trivial⟩ Tryz.func70 fun z r _ h=>⟨0,.trans (by kernel_rfl) ((aMd z.1).trans h)⟩
theorem aRb:FOk Tryz.prog 104 clipCS:=fk (cx [] [] 9 []) A0 trivial Tryz.func104 fun z r _ h=>⟨0,.trans (by kernel_rfl) ((aRa z.1).trans h)⟩
theorem aQZ:FOk Tryz.prog 145 clipTS:=fk (cx [] [] 9 []) A0 trivial Tryz.func145 fun z r _ h=>⟨0,.trans (by kernel_rfl) ((aQY z.1).trans h)⟩
theorem aJa:FOk Tryz.prog 107 clipIS:=fk (cx [] [] 9 []) A0 trivial Tryz.func107 fun z r _ h=>⟨0,.trans (by kernel_rfl) ((aQ6 z.1).trans h)⟩
theorem aQX:FOk Tryz.prog 150 clipXS:=fk (cx [] [] 9 []) A0 trivial Tryz.func150 fun z r _ h=>⟨0,.trans (by kernel_rfl) ((aQW z.1).trans h)⟩
theorem aQ5:FOk Tryz.prog 147 clipJS:=fk (cx [] [] 9 []) A0 trivial Tryz.func147 fun z r _ h=>⟨0,.trans (by kernel_rfl) ((aQ4 z.1).trans h)⟩
def cloneTS0:FSpec:=⟨[.full (bM) false],[.val (bM)],fun _=>some (([]:List Tp),())⟩
def cloneTS1:FSpec:=⟨[.full (bM) true],[.val (bM)],fun z=>aBy z.1⟩
theorem aQM:FOk Tryz.prog 146 cloneTS0:=fk (cx [] [] 8 []) A0 trivial Tryz.func146 fun z r _ h=>⟨0,.trans (by kernel_rfl) h⟩
theorem aQL:FOk Tryz.prog 146 cloneTS1:=fk (cx [] [] 8 []) A0 trivial Tryz.func146 fun z r _ h=>⟨0,.trans (by kernel_rfl) h⟩
theorem aQN:FOk Tryz.prog 146 cloneTS:=FOk.split _ aQL aQM (fun _ h=>h)
def cloneJS0:FSpec:=⟨[.full (iR) false],[.val (iR)],fun _=>some (([]:List Int),())⟩
def cloneJS1:FSpec:=⟨[.full (iR) true],[.val (iR)],fun z=>aBz z.1⟩
theorem aQP:FOk Tryz.prog 148 cloneJS0:=fk (cx [] [] 8 []) A0 trivial Tryz.func148 fun z r _ h=>⟨0,.trans (by kernel_rfl) h⟩
theorem aQO:FOk Tryz.prog 148 cloneJS1:=fk (cx [] [] 8 []) A0 trivial Tryz.func148 fun z r _ h=>⟨0,.trans (by kernel_rfl) h⟩
theorem aQQ:FOk Tryz.prog 148 cloneJS:=FOk.split _ aQO aQP (fun _ h=>h)
def cloneIS0:FSpec:=⟨[.full (aZ) false],[.val (aZ)],fun _=>some (([]:List Int),())⟩
def cloneIS1:FSpec:=⟨[.full (aZ) true],[.val (aZ)],fun z=>aBA z.1⟩
theorem aQS:FOk Tryz.prog 149 cloneIS0:=fk (cx [] [] 8 []) A0 trivial Tryz.func149 fun z r _ h=>⟨0,.trans (by kernel_rfl) h⟩
theorem aQR:FOk Tryz.prog 149 cloneIS1:=fk (cx [] [] 8 []) A0 trivial Tryz.func149 fun z r _ h=>⟨0,.trans (by kernel_rfl) h⟩
theorem aQT:FOk Tryz.prog 149 cloneIS:=FOk.split _ aQR aQS (fun _ h=>h)
def cloneXS0:FSpec:=⟨[.full (kG) false],[.val (kG)],fun _=>some (([]:List Ins),())⟩
def cloneXS1:FSpec:=⟨[.full (kG) true],[.val (kG)],fun z=>aBx z.1⟩
theorem aQJ:FOk Tryz.prog 151 cloneXS0:=fk (cx [] [] 8 []) A0 trivial Tryz.func151 fun z r _ h=>⟨0,.trans (by kernel_rfl) h⟩
theorem aQI:FOk Tryz.prog 151 cloneXS1:=fk (cx [] [] 8 []) A0 trivial Tryz.func151 fun z r _ h=>⟨0,.trans (by kernel_rfl) h⟩
theorem aQK:FOk Tryz.prog 151 cloneXS:=FOk.split _ aQI aQJ (fun _ h=>h)
theorem aRE:FOk Tryz.prog 100 anTS:=fk (cx [(145,clipTS),(146,cloneTS)] [] 6 []) A0 ⟨aQZ,aQN,trivial⟩ Tryz.func100 fun z r _ h=>⟨0,.trans (by kernel_rfl) h⟩
theorem aRG:FOk Tryz.prog 101 anJS:=fk (cx [(147,clipJS),(148,cloneJS)] [] 6 []) A0 ⟨aQ5,aQQ,trivial⟩ Tryz.func101 fun z r _ h=>⟨0,.trans (by kernel_rfl) h⟩
theorem aRH:FOk Tryz.prog 102 anIS:=fk (cx [(107,clipIS),(149,cloneIS)] [] 6 []) A0 ⟨aJa,aQT,trivial⟩ Tryz.func102 fun z r _ h=>⟨0,.trans (by kernel_rfl) h⟩
theorem aRD:FOk Tryz.prog 103 anXS:=fk (cx [(150,clipXS),(151,cloneXS)] [] 6 []) A0 ⟨aQX,aQK,trivial⟩ Tryz.func103 fun z r _ h=>⟨0,.trans (by kernel_rfl) h⟩
theorem aHx:FOk Tryz.prog 143 kisrefS:=fk (cx [] [] 16 [1]) A0 trivial Tryz.func143 fun z r _ h=>⟨0,.trans (by kernel_rfl) ((aOJ z.1).trans h)⟩
theorem aOG:FOk Tryz.prog 180 kupS:=fk (cx [] [] 27 []) A0 trivial Tryz.func180 fun z r _ h=>⟨0,.trans (by kernel_rfl) ((aOF z.1 z.2.1).trans h)⟩
theorem aHA:FOk Tryz.prog 135 kbelowS:=fk (cx [(180,kupS)] [] 29 []) ⟨[(3,(4,[.val 1 ((.int .i64)) false]))],[],[],[]⟩ ⟨aOG,trivial⟩ Tryz.func135 fun z r _ h=>(aOL z.1 z.2.1 z.2.2.1).elim fun k hk=>⟨k,.trans (by kernel_rfl) (hk.trans h)⟩
theorem aOI:FOk Tryz.prog 144 ksubS:=fk (cx [(135,kbelowS),(143,kisrefS)] [] 41 [4,5]) A0 ⟨aHA,aHx,trivial⟩ Tryz.func144 fun z r _ h=>⟨0,.trans (by kernel_rfl) ((aOH z.1 z.2.1 z.2.2.1).trans h)⟩
theorem aAs:FOk Tryz.prog 89 raboveS:=fk (cx [] [16] 30 []) ⟨[(2,(6,[.val 1 ((.int .i64)) false,.val 5 (aZ) true]))],[],[],[]⟩ trivial Tryz.func89 fun z r _ h=>(aMt z.1 z.2.1 r h).elim fun k hk=>⟨k,.trans (by kernel_rfl) hk⟩
theorem aFq:FOk Tryz.prog 52 risrefS:=fk (cx [] [] 16 [1]) A0 trivial Tryz.func52 fun z r _ h=>⟨0,.trans (by kernel_rfl) ((aMb z.1).trans h)⟩
theorem aFy:FOk Tryz.prog 130 rgoodS:=fk (cx [] [] 34 [2]) A0 trivial Tryz.func130 fun z r _ h=>⟨0,.trans (by kernel_rfl) ((aMk z.1 z.2.1).trans h)⟩
theorem aCp:FOk Tryz.prog 53 rsubS:=fk (cx [(52,risrefS),(89,raboveS),(99,rinS)] [] 40 [4,5]) ⟨[],[],[(4,[[],[],[],[],[],[4],[4],[],[4,5,6,7],[4,5,6,7],[],[],[]])],[]⟩ ⟨aFq,aAs,aAo,trivial⟩ Tryz.func53 fun z r _ h=>⟨0,.trans (by kernel_rfl) (aL2 z.1 z.2.1 z.2.2.1 r h)⟩
theorem aFd:FOk Tryz.prog 60 rtypesS:=fk (cx [] [] 26 []) ⟨[(4,(4,[.val 5 ((.int .i64)) false]))],[],[(6,[[],[0],[],[],[0,1,2,3],[0,1,2,3,4],[0,1,2,3],[0,1,2,3],[]])],[]⟩ trivial Tryz.func60 fun z r hl h=>(aLY z.1 z.2.1 hl).elim fun k hk=>⟨k,.trans (by kernel_rfl) (hk.trans h)⟩
theorem aCv:FOk Tryz.prog 68 r5inS:=fk (cx [] [] 15 []) A0 trivial Tryz.func68 fun z r _ h=>⟨0,.trans (by kernel_rfl) ((aMW z.1 z.2.1 z.2.2.1).trans h)⟩
theorem aMU:FOk Tryz.prog 67 r5listS:=fk (cx [(68,r5inS)] [] 25 []) ⟨[(4,(4,[.val 7 ((.int .i64)) false]))],[],[],[]⟩ ⟨aCv,trivial⟩ Tryz.func67 fun z r hl h=>(aMT z.1 z.2.1 z.2.2.1 hl).elim fun k hk=>⟨k,.trans (by kernel_rfl) (hk.trans h)⟩
theorem aFN:FOk Tryz.prog 69 r5typS:=fk (cx [(68,r5inS)] [] 21 [1]) A0 ⟨aCv,trivial⟩ Tryz.func69 fun z r _ h=>⟨0,.trans (by kernel_rfl) ((aMI z.1).trans h)⟩
theorem aMG:FOk Tryz.prog 66 r5typesS:=fk (cx [(69,r5typS)] [] 22 []) ⟨[(4,(4,[.val 5 ((.int .i64)) false]))],[],[],[]⟩ ⟨aFN,trivial⟩ Tryz.func66 fun z r hl h=>(aMF z.1 z.2.1 hl).elim fun k hk=>⟨k,.trans (by kernel_rfl) (hk.trans h)⟩
theorem aM0:FOk Tryz.prog 34 r5fitsS:=fk (cx [(66,r5typesS),(67,r5listS),(68,r5inS),(69,r5typS),(70,rinstrS)] [] 142 [1,4,6]) ⟨[(4,(5,[.val 3 ((.int .i64)) false])),(10,(10,[.val 5 ((.int .i64)) false])),(16,(4,[.val 7 ((.int .i64)) false]))],[],[],[]⟩ ⟨aMG,aMU,aCv,aFN,aMe,trivial⟩ Tryz.func34 fun z r hl h=>(aMZ z.1 hl).elim fun k hk=>⟨k,.trans (by kernel_rfl) (hk.trans h)⟩
theorem aAC:FOk Tryz.prog 45 r5fieldsS:=fk (cx [(89,raboveS)] [20,31] 32 [2]) ⟨[(4,(3,[.val 6 (bM) true,.val 7 ((.int .i64)) false]))],[],[(6,[[],[0],[0],[0,1,2],[0,1,2,3],[0,1,2],[0,1,2],[0],[0],[0],[],[]])],[]⟩ ⟨aAs,trivial⟩ Tryz.func45 fun z r _ h=>(aM2 z.1 z.2.1 r h).elim fun k hk=>⟨k,.trans (by kernel_rfl) hk⟩
theorem aCw:FOk Tryz.prog 79 r5goodS:=fk (cx [(130,rgoodS)] [] 21 [2]) ⟨[(2,(4,[.val 5 ((.int .i64)) false]))],[],[(4,[[],[0],[],[],[0,1,2,3],[0,1,2,3],[0,1,2,3],[],[]])],[]⟩ ⟨aFy,trivial⟩ Tryz.func79 fun z r hl h=>(aMX z.1 z.2.1 hl).elim fun k hk=>⟨k,.trans (by kernel_rfl) (hk.trans h)⟩
theorem aM4:FOk Tryz.prog 80 r5classS:=fk (cx [(45,r5fieldsS),(53,rsubS),(60,rtypesS),(79,r5goodS)] [] 118 [2,5,8,9]) ⟨[(10,(11,[.val 7 ((.int .i64)) false]))],[(5,(2,[.val 6 (aZ) false])),(12,(9,[]))],[(12,[[],[],[0,1],[],[],[0,1,2,3,4],[0,1,2,3,4],[0,1,2,3,4],[]]),(14,[[],[],[0,1],[0,1],[0,1,2,3],[0,1],[0,1],[],[],[0,1,2,3,4,5,6,7,8],[]]),(15,[[],[],[],[],[],[],[],[5,6],[5,6],[5,6,7,8],[5,6,7,8],[5,6,7,8],[5,6,7,8],[],[],[]]),(18,[[],[],[0,1],[0,1,2],[0,1],[0,1],[],[],[0,1,2,3,4,5,6,7],[]]),(19,[[],[],[],[0,1,2],[0,1,2],[0,1,2],[],[],[],[],[],[9,10],[9,10],[],[]])],[]⟩ ⟨aAC,aCp,aFd,aCw,trivial⟩ Tryz.func80 fun z r _ h=>(aM3 z.1 z.2.1 r h).elim fun k hk=>⟨k,.trans (by kernel_rfl) hk⟩
theorem aMO:FOk Tryz.prog 131 r5namedS:=fk (cx [(45,r5fieldsS)] [] 105 [3,4,5]) ⟨[],[(4,(2,[.val 17 (.bool) false])),(7,(2,[.val 30 (.bool) false])),(10,(2,[.val 39 (.bool) false])),(13,(2,[.val 48 (.bool) false])),(16,(2,[.val 67 (.bool) false]))],[(15,[[],[],[0,1],[0,1],[0,1],[],[],[],[],[7,8],[7,8,9],[7,8,9],[7,8],[7,8],[],[],[]]),(22,[[],[],[0,1],[0,1],[0,1],[],[],[],[],[7,8],[7,8],[7,8,9,10],[7,8,9,10],[7,8],[7,8],[7,8],[7,8],[],[],[]])],[]⟩ ⟨aAC,trivial⟩ Tryz.func131 fun z r _ h=>⟨0,.trans (by kernel_rfl) (aMN z.1 z.2.1 z.2.2.1 r h)⟩
theorem aMQ:FOk Tryz.prog 81 r5methodS:=fk (cx [(79,r5goodS),(130,rgoodS),(131,r5namedS)] [] 74 [2,3]) ⟨[(4,(4,[.val 5 ((.int .i64)) false]))],[(1,(2,[]))],[(6,[[],[0],[0,1],[0,1],[0,1,2,3],[0,1],[0,1],[],[]])],[]⟩ ⟨aCw,aFy,aMO,trivial⟩ Tryz.func81 fun z r _ h=>(aMP z.1 z.2.1 r h).elim fun k hk=>⟨k,.trans (by kernel_rfl) hk⟩
theorem aFQ:FOk Tryz.prog 39 r5saneS:=fk (cx [(34,r5fitsS),(79,r5goodS),(80,r5classS),(81,r5methodS)] [] 111 [1]) ⟨[(5,(3,[.val 3 (.bool) false,.val 4 ((.int .i64)) false])),(9,(3,[.val 3 (.bool) false,.val 5 ((.int .i64)) false])),(13,(10,[.val 3 (.bool) false,.val 6 ((.int .i64)) false])),(20,(3,[.val 3 (.bool) false,.val 8 ((.int .i64)) false]))],[(4,(4,[.val 3 (.bool) false])),(8,(4,[.val 3 (.bool) false])),(18,(1,[.val 3 (.bool) false]))],[(11,[[],[0],[0],[0,1,2],[0],[0],[],[]])],[]⟩ ⟨aM0,aCw,aM4,aMQ,trivial⟩ Tryz.func39 fun z r hl h=>(aML z.1 hl).elim fun k hk=>⟨k,.trans (by kernel_rfl) (hk.trans h)⟩
theorem aRh:FOk Tryz.prog 87 cbelowS:=fk (cx [(107,clipIS),(135,kbelowS)] [18] 25 [2]) ⟨[(3,(5,[.val 5 (aZ) true,.val 10 ((.int .i64)) false]))],[],[],[]⟩ ⟨aJa,aHA,trivial⟩ Tryz.func87 fun z r _ h=>(aRg z.1 z.2.1 r h).elim fun k hk=>⟨k,.trans (by kernel_rfl) hk⟩
theorem aIM:FOk Tryz.prog 88 cslotS:=fk (cx [] [] 41 [3]) A0 trivial Tryz.func88 fun z r _ h=>⟨0,.trans (by kernel_rfl) ((aIL z.1 z.2.1 z.2.2.1).trans h)⟩
theorem aIJ:FOk Tryz.prog 44 ctargetsS:=fk (cx [(87,cbelowS),(88,cslotS)] [14,39,44] 45 [2,3]) ⟨[(7,(6,[.val 5 (aZ) true,.val 26 ((.int .i64)) false]))],[],[],[]⟩ ⟨aRh,aIM,trivial⟩ Tryz.func44 fun z r _ h=>(aQn z.1 z.2.1 r h).elim fun k hk=>⟨k,.trans (by kernel_rfl) hk⟩
theorem aM6:FOk Tryz.prog 90 r5belowS:=fk (cx [(89,raboveS),(99,rinS)] [21,25] 26 [2]) ⟨[(3,(4,[.val 5 (aZ) true,.val 6 ((.int .i64)) false]))],[],[],[]⟩ ⟨aAs,aAo,trivial⟩ Tryz.func90 fun z r _ h=>(aM5 z.1 z.2.1 r h).elim fun k hk=>⟨k,.trans (by kernel_rfl) hk⟩
theorem aFP:FOk Tryz.prog 91 r5slotS:=fk (cx [] [] 41 [3]) A0 trivial Tryz.func91 fun z r _ h=>⟨0,.trans (by kernel_rfl) ((aMJ z.1 z.2.1 z.2.2.1).trans h)⟩
theorem aMx:FOk Tryz.prog 46 r8targetsS:=fk (cx [(90,r5belowS),(91,r5slotS)] [14,44,48] 49 [2,3]) ⟨[(7,(5,[.val 5 (aZ) true,.val 7 ((.int .i64)) false]))],[(2,(2,[.val 5 (aZ) true]))],[(9,[[],[0],[0,1],[0],[0],[0,1,2,3,4],[0,1,2,3,4],[],[],[],[9],[10],[]])],[(9,[0,1,2,3,4,5,6,7,8,9,11,10,12])]⟩ ⟨aM6,aFP,trivial⟩ Tryz.func46 fun z r _ h=>(aMw z.1 z.2.1 r h).elim fun k hk=>⟨k,.trans (by kernel_rfl) hk⟩
theorem aPQ:FOk Tryz.prog 154 fenterS:=fk {cx [] [41] 47 [1002000001,1002000002,1002000003,1002000004,1002000006,1000000,44] with rows:=[44] } ⟨[],[],[(1,[[],[],[],[],[0,1,2,3],[0,1,2,3,4],[0,1,2,3,4],[0,1,2,3,4],[0,1,2,3,4],[0,1,2,3,4,5,6,7,8],[0,1,2,3,4,5,6,7,8,9],[0,1,2,3,4,5,6,7,8,9],[0,1,2,3,4,5,6,7,8,9],[0,1,2,3,4,5,6,7,8,9],[0,1,2,3,4,5,6,7,8,9,10,11,12,13],[0,1,2,3,4,5,6,7,8,9,10,11,12,13],[0,1,2,3,4,5,6,7,8,9,10,11,12,13],[0,1,2,3,4,5,6,7,8,9,10,11,12,13],[9],[9],[],[]])],[(1,[0,1,2,3,4,5,6,7,8,19,9,10,11,12,13,14,15,16,17,18,20,21])]⟩ trivial Tryz.func154 fun z r _ h=>⟨0,.trans (by kernel_rfl) h⟩
theorem aI8:FOk Tryz.prog 107 clipIOS:=fk {cx [] [] 9 [0,8] with rows:=[1,8] } A0 trivial Tryz.func107 fun z r _ h=>⟨0,.trans (by kernel_rfl) ((aQ7 z.1).trans h)⟩
theorem aPD:FOk Tryz.prog 155 fleaveS:=fk {cx [(1000000000106,sortIS),(1000000000107,clipIOS)] [50,63] 70 [1002000001,1002000002,1002000003,1002000004,1002000006,1000000,4,41,53,65,67] with rows:=[4,41,53,65,67],thaws:=[65] } ⟨[(2,(6,[.own 4 3 ((.int .i64)),.lnk 1002000003 4 (.bool),.lnk 1002000004 3 ((.int .i64))]))],[],[(0,[[],[],[],[],[0,1,2,3],[],[],[0,1,2,3,4,5,6],[0,1,2,3,4,5,6],[0,1,2,3,4,5,6],[0,1,2,3,4,5,6],[0,1,2,3,4,5,6,7,8,9,10],[0,1,2,3,4,5,6],[0,1,2,3,4,5,6],[]]),(9,[[],[0],[0],[0],[0],[0,1,2,3,4],[0,1,2,3,4],[0,1,2,3,4],[0],[],[],[]])],[]⟩ ⟨aEY,aI8,trivial⟩ Tryz.func155 fun z r _ h=>(aPC z.1 z.2.1 r h).elim fun k hk=>⟨k,.trans (by kernel_rfl) hk⟩
theorem aPN:FOk Tryz.prog 109 ffromS:=fk {cx [(154,fenterS),(155,fleaveS)] [83] 169 [1002000001,1002000002,1002000003,1002000004,1002000006,1000000,11,4,87,134] with rows:=[4,11,87,134] } ⟨[(2,(17,[.own 4 188 (dP),.lnk 1002000001 3 ((.int .i64)),.lnk 1002000002 3 ((.int .i64)),.lnk 1002000003 4 (.bool),.lnk 1002000004 3 ((.int .i64)),.lnk 1002000006 26 (aZ),.box 1000000 155 [(kI,false),(.any,false),(.any,false),(.any,false),(.any,false),((.int .i64),false),(.any,false)]])),(4,(9,[.own 4 188 (dP),.ptr 5 4 0 2,.lnk 1002000002 3 ((.int .i64))]))],[(7,(1,[.val 62 (.bool) false]))],[(4,[[],[],[],[],[0,1,2,3],[0,1,2,3],[0,1,2,3],[0,1,2,3],[0,1,2,3,4,5,6,7],[0,1,2,3,4,5,6,7],[0,1,2,3,4,5,6,7],[0,1,2,3,4,5,6,7],[0,1,2,3],[0,1,2,3],[0,1,2,3],[]]),(5,[[],[],[],[],[0,1,2,3],[0,1,2,3],[0,1,2,3],[0,1,2,3],[],[],[0,1,2,3,4,5,6,7,8,9],[0,1,2,3,4,5,6,7,8,9],[0,1,2,3,4,5,6,7,8,9],[0,1,2,3,4,5,6,7,8,9],[],[],[]]),(12,[[],[],[],[],[0,1,2,3],[0,1,2,3],[0,1,2,3],[0,1,2,3],[0,1,2,3,4,5,6,7],[0,1,2,3,4,5,6,7],[0,1,2,3,4,5,6,7],[0,1,2,3,4,5,6,7],[0,1,2,3,4,5,6,7,8,9,10,11],[0,1,2,3,4,5,6,7,8,9,10,11],[0,1,2,3,4,5,6,7,8,9,10,11],[0,1,2,3,4,5,6,7,8,9,10,11],[0,1,2,3,4,5,6,7],[0,1,2,3,4,5,6,7],[0,1,2,3,4,5,6,7,8,9,10,11,12,13,14,15,16,17],[0,1,2,3,4,5,6,7,8,9,10,11,12,13,14,15,16,17],[0,1,2,3,4,5,6,7,8,9,10,11,12,13,14,15,16,17],[0,1,2,3,4,5,6,7,8,9,10,11,12,13,14,15,16,17],[0,1,2,3,4,5,6,7,8,9,10,11,12,13,14,15,16,17,18,19,20,21],[0,1,2,3,4,5,6,7,8,9,10,11,12,13,14,15,16,17],[0,1,2,3,4,5,6,7,8,9,10,11,12,13,14,15,16,17],[0,1,2,3,4,5,6,7],[],[]]),(18,[[],[],[],[],[0,1,2,3],[0,1,2,3,4],[0,1,2,3,4],[0,1,2,3,4],[0,1,2,3,4],[0,1,2,3,4,5,6,7,8],[0,1,2,3,4],[0,1,2,3,4],[0,1,2,3,4,5,6,7,8,9,10,11],[0,1,2,3,4,5,6,7,8,9,10,11],[0,1,2,3,4,5,6,7,8,9,10,11],[0,1,2,3,4,5,6,7,8,9,10,11],[0,1,2,3,4,5,6,7,8,9,10,11,12,13,14,15],[0,1,2,3,4,5,6,7,8,9,10,11],[0,1,2,3,4,5,6,7,8,9,10,11],[0,1,2,3,4],[],[]])],[]⟩ ⟨aPQ,aPD,trivial⟩ Tryz.func109 fun z r _ h=>(aPM z.1 z.2.1 r h).elim fun k hk=>⟨k,.trans (by kernel_rfl) hk⟩
theorem aQ9:FOk Tryz.prog 110 clipIIOS:=fk {cx [] [] 9 [0,8] with rows:=[1,8] } A0 trivial Tryz.func110 fun z r _ h=>⟨0,.trans (by kernel_rfl) ((aQ8 z.1).trans h)⟩
theorem aMh:FOk Tryz.prog 57 ringsS:=fk {cx [(109,ffromS),(1000000000110,clipIIOS)] [] 39 [2,10,12,14,2016001,2016002,2016003,2016004,2016006,16,38] with rows:=[2,10,12,14,38],lnks:=[(155,[1,2,3,4,6])] } ⟨[(4,(5,[.val 19 ((.int .i64)) false,.lnk 2016001 3 ((.int .i64)),.lnk 2016002 3 ((.int .i64)),.lnk 2016003 4 (.bool),.lnk 2016004 3 ((.int .i64)),.lnk 2016006 26 (aZ),.box 16 155 [(kI,false),(.any,false),(.any,false),(.any,false),(.any,false),((.int .i64),false),(.any,false)]]))],[],[(2,[[],[0],[0],[0,1,2],[0,1,2],[0,1,2,3,4],[0,1,2,3,4],[],[],[]])],[]⟩ ⟨aPN,aQ9,trivial⟩ Tryz.func57 fun z r _ h=>(aMg z.1 r h).elim fun k hk=>⟨k,.trans (by kernel_rfl) hk⟩
theorem aMS:FOk Tryz.prog 97 r5localS:=fk (cx [] [] 26 [2,4]) ⟨[],[],[(1,[[],[0],[0],[],[0,1,2,3],[0,1,2,3],[],[]])],[]⟩ trivial Tryz.func97 fun z r _ h=>⟨0,.trans (by kernel_rfl) h⟩
theorem aMa:FOk Tryz.prog 129 rjoinS:=fk (cx [(53,rsubS),(89,raboveS),(99,rinS)] [] 55 [4,5,6]) ⟨[(9,(4,[.val 9 ((.int .i64)) false]))],[],[(7,[[],[0],[0],[],[0,1,2,3],[0,1,2,3,4],[0,1,2,3,4],[],[],[]])],[]⟩ ⟨aCp,aAs,aAo,trivial⟩ Tryz.func129 fun z r _ h=>(aL9 z.1 z.2.1 z.2.2.1 r h).elim fun k hk=>⟨k,.trans (by kernel_rfl) hk⟩
theorem aMD:FOk Tryz.prog 98 r8givesS:=fk (cx [] [] 10 [1]) A0 trivial Tryz.func98 fun z r _ h=>⟨0,.trans (by kernel_rfl) h⟩
theorem aMC:FOk Tryz.prog 51 r8ruleS:=fk (cx [(45,r5fieldsS),(91,r5slotS),(97,r5localS),(98,r8givesS)] [] 218 [3,5,8,9,10,11,12]) ⟨[],[],[(5,[[],[],[0,1],[]]),(7,[[],[],[0,1],[]]),(9,[[],[],[0,1],[],[],[0,1,2,3,4],[0,1,2,3,4],[],[],[8],[]]),(11,[[],[],[0,1],[],[],[0,1,2,3,4],[0,1,2,3,4],[],[],[],[]]),(17,[[],[],[0,1],[0,1],[2,3],[]]),(19,[[],[0],[],[0,1,2],[0,1,2],[3,4],[]]),(21,[[],[],[0,1],[]]),(23,[[],[],[0,1],[0,1],[2,3],[]]),(25,[[],[0],[],[0,1,2],[0,1,2],[3,4],[]]),(29,[[],[],[0,1],[0,1],[2,3],[]]),(31,[[],[],[0,1],[0,1,2],[0,1,2],[0,1],[0,1,2,3,4,5],[0,1,2,3,4,5],[0,1,2,3,4,5,6,7],[0,1,2,3,4,5,6,7],[0,1,2,3,4,5,6,7],[0,1],[6,7,8,9,10,11],[]]),(33,[[],[0],[0,1],[0,1],[0],[0,1,2,3,4],[0,1,2,3,4],[0],[0],[],[],[]]),(35,[[],[],[0,1],[0,1],[],[],[],[0,1,2,3,4,5,6],[]]),(39,[[],[],[0,1],[0,1],[2,3],[]]),(43,[[],[],[0,1],[0,1],[],[],[],[0,1,2,3,4,5,6],[0,1,2,3,4,5,6],[0,1,2,3,4,5,6,7,8],[0,1,2,3,4,5,6,7,8],[0,1,2,3,4,5,6],[0,1,2,3,4,5,6],[0,1,2,3,4,5,6],[],[]]),(46,[[],[],[0,1],[0,1],[0,1,2,3],[0,1],[0,1],[0,1],[0,1],[],[0,1,2,3,4,5,6,7,8,9],[0,1,2,3,4,5,6,7,8,9],[0,1,2,3,4,5,6,7,8,9,10,11],[0,1,2,3,4,5,6,7,8,9],[0,1,2,3,4,5,6,7,8,9],[],[],[]]),(48,[[],[0],[],[0,1,2],[0,1,2],[3,4],[]])],[(5,[1,2,0,3]),(7,[1,2,0,3]),(9,[0,1,2,3,4,5,6,7,9,8,10]),(17,[0,1,3,4,2,5]),(19,[0,1,2,4,5,3,6]),(21,[1,2,0,3]),(23,[0,1,3,4,2,5]),(25,[0,1,2,4,5,3,6]),(29,[0,1,3,4,2,5]),(35,[1,2,3,4,5,6,7,0,8]),(39,[0,1,3,4,2,5]),(48,[0,1,2,4,5,3,6])]⟩ ⟨aAC,aFP,aMS,aMD,trivial⟩ Tryz.func51 fun z r _ h=>⟨0,.trans (by kernel_rfl) h⟩
theorem aFI:FOk Tryz.prog 21 r8stepS:=fk (cx [(51,r8ruleS),(52,risrefS),(53,rsubS)] [65] 196 [4,11,15,18,19]) ⟨[(21,(9,[.val 17 ((.int .i64)) false]))],[(5,(2,[.val 12 (aZ) true])),(7,(2,[.val 12 (aZ) true])),(9,(2,[.val 12 (aZ) true])),(11,(2,[])),(14,(3,[.val 13 (bM) false,.val 14 (bM) false])),(14,(1,[.val 104 (.bool) false])),(17,(2,[]))],[(11,[[],[],[],[],[],[],[],[4,5,6],[4,5,6],[4,5,6,7,8],[4,5,6],[4,5,6],[4,5,6],[4,5,6],[],[]]),(16,[[],[],[0,1],[0,1,2],[0,1],[2,3,4],[]]),(23,[[],[0],[0,1],[0],[],[],[0,1,2,3,4,5],[0,1,2,3,4,5,6],[0,1,2,3,4,5],[0,1,2,3,4,5],[0,1,2,3,4,5,6,7,8,9],[0,1,2,3,4,5,6,7,8,9,10],[6,7,8,9],[]])],[(16,[0,1,3,4,5,2,6]),(23,[0,1,2,3,4,5,9,10,11,12,6,7,8,13])]⟩ ⟨aMC,aFq,aCp,trivial⟩ Tryz.func21 fun z r _ h=>(aMz z.1 z.2.1 z.2.2.1 z.2.2.2.1 r h).elim fun k hk=>⟨k,.trans (by kernel_rfl) hk⟩
theorem aMB:FOk Tryz.prog 78 r8shapesS:=fk {cx [(21,r8stepS),(60,rtypesS),(129,rjoinS)] [119] 139 [2,27,18] with rows:=[27] } ⟨[(7,(32,[.val 8 ((.int .i64)) false,.row 27 52 (tQ)])),(11,(26,[.val 9 (.bool) false,.val 10 ((.int .i64)) false,.row 27 52 (tQ)])),(18,(19,[.val 9 (.bool) false,.val 14 ((.int .i64)) false,.row 27 52 (tQ)])),(28,(6,[.val 16 (bM) true,.val 17 ((.int .i64)) false]))],[],[(14,[[],[0],[0,1],[0,1,2],[0,1,2,3],[0,1,2],[0,1,2],[0,1,2],[],[],[],[10],[10,11],[11,12],[12],[]]),(30,[[],[],[0,1],[0,1,2],[0,1],[0,1],[0,1],[0,1,2,3,4,5,6],[0,1],[0,1],[0,1,2,3,4,5,6,7,8,9],[0,1,2,3,4,5,6,7,8,9,10],[0,1,2,3,4,5,6,7,8,9],[0,1,2,3,4,5,6,7,8,9],[],[0,1,2,3,4,5,6,7,8,9,10,11,12,13,14],[]])],[(14,[0,1,2,3,4,5,6,7,8,9,10,12,14,11,13,15])]⟩ ⟨aFI,aFd,aMa,trivial⟩ Tryz.func78 fun z r _ h=>(aMA z.1 z.2.1 r h).elim fun k hk=>⟨k,.trans (by kernel_rfl) hk⟩
theorem aFK:FOk Tryz.prog 38 r8allS:=fk (cx [(78,r8shapesS)] [25] 30 [1]) ⟨[(3,(6,[.val 4 (mM) true,.val 5 ((.int .i64)) false]))],[],[],[]⟩ ⟨aMB,trivial⟩ Tryz.func38 fun z r _ h=>(aME z.1 r h).elim fun k hk=>⟨k,.trans (by kernel_rfl) hk⟩
theorem aPe:FOk Tryz.prog 137 growTS:=fk {cx [] [] 27 [4,22,25,0,26] with rows:=[0,4,20,22,25,26],thaws:=[1000009,1000017,1000018] } A0 trivial Tryz.func137 fun z r _ h=>⟨0,.trans (by kernel_rfl) (aPd z.1 z.2.1 r h)⟩
theorem aDU:FOk Tryz.prog 94 concatTS:=fk {cx [(137,growTS)] [31] 36 [24,6,33] with rows:=[6,33] } ⟨[(3,(6,[.val 3 ((.int .i64)) false,.val 11 ((.int .i64)) false])),(11,(4,[.own 6 39 (dP),.val 27 ((.int .i64)) false]))],[],[],[]⟩ ⟨aPe,trivial⟩ Tryz.func94 fun z r _ h=>(aQC z.1 r h).elim fun k hk=>⟨k,.trans (by kernel_rfl) hk⟩
theorem aO1:FOk Tryz.prog 136 indexIS:=fk (cx [] [] 19 []) ⟨[(2,(5,[.val 8 ((.int .i64)) false]))],[],[],[]⟩ trivial Tryz.func136 fun z r hl h=>(aO0 z.1 z.2.1 hl).elim fun k hk=>⟨k,.trans (by kernel_rfl) (hk.trans h)⟩
theorem aIQ:FOk Tryz.prog 93 containsIS:=fk (cx [(136,indexIS)] [] 9 []) A0 ⟨aO1,trivial⟩ Tryz.func93 fun z r hl h=>⟨0,.trans (by kernel_rfl) ((aQx z.1 z.2.1 hl).trans h)⟩
theorem aQ1:FOk Tryz.prog 50 clipQS:=fk (cx [] [] 9 []) A0 trivial Tryz.func50 fun z r _ h=>⟨0,.trans (by kernel_rfl) ((aQ0 z.1).trans h)⟩
theorem aQl:FOk Tryz.prog 134 cupS:=fk (cx [] [] 19 [2]) A0 trivial Tryz.func134 fun z r _ h=>⟨0,.trans (by kernel_rfl) (aQk z.1 z.2.1 r h)⟩
theorem aJm:FOk Tryz.prog 86 cfieldsS:=fk (cx [(94,concatTS),(134,cupS)] [] 26 [2]) ⟨[(4,(3,[.val 1 ((.int .i64)) false,.val 5 (bM) false]))],[],[],[]⟩ ⟨aDU,aQl,trivial⟩ Tryz.func86 fun z r _ h=>(aRe z.1 z.2.1 r h).elim fun k hk=>⟨k,.trans (by kernel_rfl) hk⟩
theorem aQq:FOk Tryz.prog 43 csizeS:=fk (cx [(86,cfieldsS)] [] 10 [2]) A0 ⟨aJm,trivial⟩ Tryz.func43 fun z r _ h=>⟨0,.trans (by kernel_rfl) (aQp z.1 z.2.1 r h)⟩
theorem aQV:FOk Tryz.prog 140 clocalS:=fk (cx [] [] 40 [2,4]) A0 trivial Tryz.func140 fun z r _ h=>⟨0,.trans (by kernel_rfl) (aQU z.1 z.2.1 r h)⟩
theorem aNN:FOk Tryz.prog 184 numIsS:=fk (cx [] [] 9 []) A0 trivial Tryz.func184 fun z r _ h=>⟨0,.trans (by kernel_rfl) ((aNM z.1).trans h)⟩
theorem aPw:FOk Tryz.prog 182 fnumberS:=fk (cx [] [] 2 [0]) A0 trivial Tryz.func182 fun z r _ h=>⟨0,.trans (by kernel_rfl) h⟩
theorem aPU:FOk Tryz.prog 183 farrayS:=fk (cx [] [] 2 [0]) A0 trivial Tryz.func183 fun z r _ h=>⟨0,.trans (by kernel_rfl) h⟩
theorem aPv:FOk Tryz.prog 141 fobjectS:=fk (cx [] [] 5 [2]) A0 trivial Tryz.func141 fun z r _ h=>⟨0,.trans (by kernel_rfl) h⟩
theorem aPq:FOk Tryz.prog 181 fplain1S:=fk (cx [] [] 4 []) A0 trivial Tryz.func181 fun z r _ h=>⟨0,.trans (by kernel_rfl) h⟩
theorem aPu:FOk Tryz.prog 139 fof1S:=fk (cx [] [] 5 [1]) A0 trivial Tryz.func139 fun z r _ h=>⟨0,.trans (by kernel_rfl) h⟩
theorem aPT:FOk Tryz.prog 142 fcalledS:=fk (cx [(94,concatTS)] [] 24 [2,4,5]) A0 ⟨aDU,trivial⟩ Tryz.func142 fun z r _ h=>⟨0,.trans (by kernel_rfl) (aPS z.1 z.2.1 r h)⟩
theorem aPp:FOk Tryz.prog 138 fplainS:=fk (cx [(181,fplain1S),(182,fnumberS),(183,farrayS),(184,numIsS)] [] 118 [2,5]) A0 ⟨aPq,aPw,aPU,aNN,trivial⟩ Tryz.func138 fun z r _ h=>⟨0,.trans (by kernel_rfl) ((aPo z.1).trans h)⟩
theorem aPt:FOk Tryz.prog 95 fofS:=fk (cx [(86,cfieldsS),(88,cslotS),(138,fplainS),(139,fof1S),(140,clocalS),(141,fobjectS),(142,fcalledS)] [] 163 [3,4,6,7,8]) ⟨[],[],[(14,[[],[0],[0],[0],[],[0,1,2,3,4],[0,1,2,3,4,5],[0,1,2,3,4,5,6],[0,1,2,3,4,5,6],[5],[0,1,2,3,4,5,6,7,8,9],[0,1,2,3,4,5,6,7,8,9],[5],[5],[],[],[]]),(16,[[],[],[],[0,1,2],[0,1,2,3],[0,1,2,3],[],[0,1,2,3,4,5,6],[0,1,2,3,4,5,6],[],[],[],[],[]]),(25,[[],[],[0,1],[],[],[0,1,2,3,4],[0,1,2,3,4,5],[0,1,2,3,4,5],[0,1,2,3,4,5],[0,1,2,3,4],[],[]]),(27,[[],[0],[],[0,1,2],[0,1,2,3],[0,1,2,3],[3],[],[],[]])],[]⟩ ⟨aJm,aIM,aPp,aPu,aQV,aPv,aPT,trivial⟩ Tryz.func95 fun z r _ h=>⟨0,.trans (by kernel_rfl) (aPr z.1 z.2.1 z.2.2.1 r h)⟩
theorem aPP:FOk Tryz.prog 96 ffitsS:=fk (cx [(143,kisrefS),(144,ksubS)] [] 33 [4,6,7]) A0 ⟨aHx,aOI,trivial⟩ Tryz.func96 fun z r _ h=>⟨0,.trans (by kernel_rfl) ((aPO z.1 z.2.1 z.2.2.1 z.2.2.2.1).trans h)⟩
theorem aPy:FOk Tryz.prog 92 fnextsS:=fk (cx [] [] 24 [2]) A0 trivial Tryz.func92 fun z r _ h=>⟨0,.trans (by kernel_rfl) ((aPx z.1 z.2.1).trans h)⟩
theorem aHZ:FOk Tryz.prog 49 fstepS:=fk (cx [(92,fnextsS),(93,containsIS),(94,concatTS),(95,fofS),(96,ffitsS)] [] 130 [4,11,12,15]) ⟨[(16,(5,[.val 9 (aZ) false,.val 104 ((.int .i64)) false]))],[],[(18,[[],[0],[0],[0,1,2],[0,1,2,3],[0,1,2,3,4],[0,1,2,3],[0,1,2],[0,1,2],[0,1,2,3,4,5,6,7,8],[],[]]),(21,[[],[0],[],[0,1,2],[0,1,2],[],[],[0,1,2,3,4,5,6],[7],[],[]])],[(21,[0,1,2,3,4,5,6,8,7,9,10])]⟩ ⟨aPy,aIQ,aDU,aPt,aPP,trivial⟩ Tryz.func49 fun z r _ h=>(aPj z.1 z.2.1 z.2.2.1 z.2.2.2.1 r h).elim fun k hk=>⟨k,.trans (by kernel_rfl) hk⟩
theorem aQh:FOk Tryz.prog 112 cyc1S:=fk (cx [(93,containsIS)] [] 7 []) A0 ⟨aIQ,trivial⟩ Tryz.func112 fun z r hl h=>⟨0,.trans (by kernel_rfl) ((aQg z.1 z.2.1 hl).trans h)⟩
theorem aO5:FOk Tryz.prog 85 indexCycS:=fk (cx [(112,cyc1S)] [] 19 []) ⟨[(2,(5,[.val 8 ((.int .i64)) false]))],[],[],[]⟩ ⟨aQh,trivial⟩ Tryz.func85 fun z r hl h=>(aO4 z.1 z.2.1 hl).elim fun k hk=>⟨k,.trans (by kernel_rfl) (hk.trans h)⟩
theorem aQA:FOk Tryz.prog 41 containsCycS:=fk (cx [(114000085,indexCycS)] [] 9 []) A0 ⟨aO5,trivial⟩ Tryz.func41 fun z r hl h=>⟨0,.trans (by kernel_rfl) ((aQz z.1 z.2.1 hl).trans h)⟩
theorem aQf:FOk Tryz.prog 59 cyclicS:=fk {cx [(114000041,containsCycS)] [] 28 [3] with thaws:=[1000003] } ⟨[(2,(6,[.val 9 ((.int .i64)) false]))],[],[],[]⟩ ⟨aQA,trivial⟩ Tryz.func59 fun z r _ h=>(aQe z.1 z.2.1 r h).elim fun k hk=>⟨k,.trans (by kernel_rfl) hk⟩
theorem aNW:FOk Tryz.prog 132 mul64S:=fk (cx [] [] 51 []) A0 trivial Tryz.func132 fun z r _ h=>⟨0,.trans (by kernel_rfl) (aNV z.1 z.2.1 r h)⟩
theorem aDe:FOk Tryz.prog 82 lofS:=fk (cx [] [] 11 [2]) A0 trivial Tryz.func82 fun z r _ h=>⟨0,.trans (by kernel_rfl) ((aOv z.1).trans h)⟩
theorem aOp:FOk Tryz.prog 133 lsizeS:=fk (cx [] [] 10 []) A0 trivial Tryz.func133 fun z r _ h=>⟨0,.trans (by kernel_rfl) ((aOo z.1).trans h)⟩
theorem aOr:FOk Tryz.prog 83 lplusS:=fk (cx [(82,lofS)] [] 20 [2,3,4]) A0 ⟨aDe,trivial⟩ Tryz.func83 fun z r _ h=>⟨0,.trans (by kernel_rfl) (aOq z.1 z.2.1 r h)⟩
theorem aOn:FOk Tryz.prog 84 ltimesS:=fk (cx [(82,lofS),(132,mul64S),(133,lsizeS)] [] 39 [2,3,4]) ⟨[],[],[(3,[[],[],[],[0,1,2],[0,1,2],[],[],[],[],[8],[9],[]])],[(3,[0,1,2,3,4,5,6,7,8,10,9,11])]⟩ ⟨aDe,aNW,aOp,trivial⟩ Tryz.func84 fun z r _ h=>⟨0,.trans (by kernel_rfl) (aOm z.1 z.2.1 r h)⟩
theorem aOC:FOk Tryz.prog 40 lholdsS:=fk (cx [(82,lofS),(83,lplusS),(84,ltimesS)] [] 43 [2,6]) ⟨[(5,(4,[.val 19 ((.int .i64)) false,.box 6 130 [((.int .i64),false),(.bool,false)]]))],[],[(7,[[],[0],[0],[0,1,2],[0,1,2,3],[0,1,2],[0,1,2],[0],[0],[],[]])],[]⟩ ⟨aDe,aOr,aOn,trivial⟩ Tryz.func40 fun z r _ h=>(aOB z.1 z.2.1 r h).elim fun k hk=>⟨k,.trans (by kernel_rfl) hk⟩
theorem aGa:FOk Tryz.prog 48 pshapeS:=fk (cx [] [] 28 [6]) A0 trivial Tryz.func48 fun z r _ h=>⟨0,.trans (by kernel_rfl) (aNc z.1 z.2.1 z.2.2.1 r h)⟩
theorem aCJ:FOk Tryz.prog 17 pcostS:=fk (cx [(43,csizeS),(44,ctargetsS)] [] 50 [2,3]) ⟨[(8,(5,[.val 5 ((.int .i64)) false,.val 27 ((.int .i64)) false]))],[],[],[]⟩ ⟨aQq,aIJ,trivial⟩ Tryz.func17 fun z r _ h=>(aNv z.1 z.2.1 r h).elim fun k hk=>⟨k,.trans (by kernel_rfl) hk⟩
theorem aNf:FOk Tryz.prog 47 prowS:=fk {cx [] [] 33 [2008000,8,11,2009000,9] with rows:=[11],thaws:=[32],lnks:=[(49,[0])] } A0 trivial Tryz.func47 fun z r _ h=>⟨0,.trans (by kernel_rfl) (aNe z.1 z.2.1 z.2.2.1 z.2.2.2.1 r h)⟩
theorem aGc:FOk Tryz.prog 19 prulesS:=fk (cx [(17,pcostS),(47,prowS),(48,pshapeS),(49,fstepS),(50,clipQS)] [81,94] 110 [3,10,11]) ⟨[(6,(14,[.val 8 (rD) true,.val 54 ((.int .i64)) false])),(15,(4,[.val 8 (rD) true,.val 90 ((.int .i64)) false]))],[(12,(2,[.val 8 (rD) true]))],[],[]⟩ ⟨aCJ,aNf,aGa,aHZ,aQ1,trivial⟩ Tryz.func19 fun z r _ h=>(aNd z.1 z.2.1 z.2.2.1 r h).elim fun k hk=>⟨k,.trans (by kernel_rfl) hk⟩
theorem aNn:FOk Tryz.prog 42 pnegS:=fk (cx [] [] 5 []) A0 trivial Tryz.func42 fun z r _ h=>⟨0,.trans (by kernel_rfl) h⟩
theorem aOX:FOk Tryz.prog 85 indexNegS:=fk (cx [(42,pnegS)] [] 19 []) ⟨[(2,(5,[.val 8 ((.int .i64)) false]))],[],[],[]⟩ ⟨aNn,trivial⟩ Tryz.func85 fun z r hl h=>(aOW z.1 z.2.1 hl).elim fun k hk=>⟨k,.trans (by kernel_rfl) (hk.trans h)⟩
theorem aQv:FOk Tryz.prog 41 containsNegS:=fk (cx [(44000085,indexNegS)] [] 9 []) A0 ⟨aOX,trivial⟩ Tryz.func41 fun z r hl h=>⟨0,.trans (by kernel_rfl) ((aQu z.1 z.2.1 hl).trans h)⟩
theorem aGo:FOk Tryz.prog 15 pcheckS:=fk (cx [(19,prulesS),(40,lholdsS),(44000041,containsNegS)] [] 49 [2,7,9]) ⟨[(2,(12,[.val 15 ((.int .i64)) false])),(5,(6,[.val 25 ((.int .i64)) false]))],[],[],[]⟩ ⟨aGc,aOC,aQv,trivial⟩ Tryz.func15 fun z r _ h=>(aNw z.1 z.2.1 r h).elim fun k hk=>⟨k,.trans (by kernel_rfl) hk⟩
theorem aF3:FOk Tryz.prog 18 r14costS:=fk (cx [(45,r5fieldsS),(46,r8targetsS)] [] 53 [2,3]) ⟨[(8,(4,[.val 5 ((.int .i64)) false,.val 7 ((.int .i64)) false]))],[],[(10,[[],[],[0,1],[0,1,2],[0,1],[0,1],[],[],[],[0,1,2,3,4,5,6,7,8],[]]),(11,[[],[],[0,1],[0,1,2],[0,1],[0,1],[],[],[],[]])],[]⟩ ⟨aAC,aMx,trivial⟩ Tryz.func18 fun z r _ h=>(aM9 z.1 z.2.1 r h).elim fun k hk=>⟨k,.trans (by kernel_rfl) hk⟩
theorem aM8:FOk Tryz.prog 16 r14potsS:=fk (cx [(18,r14costS),(21,r8stepS)] [] 93 [2,6]) ⟨[(2,(15,[.val 5 ((.int .i64)) false])),(8,(9,[.val 7 ((.int .i64)) false])),(13,(4,[.val 11 ((.int .i64)) false]))],[],[(5,[[],[],[],[],[0,1,2,3],[0,1,2,3],[]]),(11,[[],[0],[0,1],[0,1,2],[0,1,2,3],[0,1,2],[0,1,2],[0,1,2,3,4,5,6],[0,1,2],[0,1,2],[0,1,2],[],[],[],[13],[13,14],[14,15],[15],[]]),(15,[[],[],[0,1],[],[],[0,1,2,3,4],[0,1,2,3,4,5],[0,1,2,3,4,5],[0,1,2,3,4,5,6,7],[0,1,2,3,4,5],[0,1,2,3,4,5],[0,1,2,3,4],[0,1,2,3,4,5,6,7,8,9,10,11],[0,1,2,3,4,5,6,7,8,9,10,11],[0,1,2,3,4,5,6,7,8,9,10,11,12,13],[0,1,2,3,4,5,6,7,8,9,10,11,12,13,14],[0,1,2,3,4,5,6,7,8,9,10,11,12,13],[0,1,2,3,4,5,6,7,8,9,10,11,12,13],[0,1,2,3,4,5,6,7,8,9,10,11],[0,1,2,3,4,5,6,7,8,9,10,11],[0,1,2,3,4],[]])],[(11,[0,1,2,3,4,5,6,7,8,9,10,11,12,13,15,17,14,16,18])]⟩ ⟨aF3,aFI,trivial⟩ Tryz.func16 fun z r _ h=>(aM7 z.1 z.2.1 r h).elim fun k hk=>⟨k,.trans (by kernel_rfl) hk⟩
theorem aQ3:FOk Tryz.prog 105 clipMOS:=fk {cx [] [] 9 [0,8] with rows:=[1,8] } A0 trivial Tryz.func105 fun z r _ h=>⟨0,.trans (by kernel_rfl) ((aQ2 z.1).trans h)⟩
theorem aO9:FOk Tryz.prog 55 icopyHS:=fk {cx [(100,anTS),(101,anJS),(102,anIS),(103,anXS),(104,clipCS),(1000000000105,clipMOS)] [30,68] 83 [1,2002003,2,2003003,3,5,7,71,79] with rows:=[71],thaws:=[3000082],lnks:=[(28,[3])] } ⟨[(3,(4,[.val 25 ((.int .i64)) false,.box 3 28 [(kH,true),(bM,false),(iR,false),(.any,false),(aZ,false),((.int .i64),false),((.int .i64),false)]])),(8,(5,[.val 47 ((.int .i64)) false,.lnk 2003003 42 (gP)]))],[],[(1,[[],[],[],[0,1,2],[0,1,2],[],[0,1,2,3,4,5],[0,1,2,3,4,5],[],[0,1,2,3,4,5,6,7,8],[0,1,2,3,4,5,6,7,8],[0,1,2,3,4,5,6,7,8,9,10],[0,1,2,3,4,5,6,7,8,9,10],[],[0,1,2,3,4,5,6,7,8,9,10,11,12,13],[]]),(5,[[],[],[0,1],[0,1],[0,1,2,3],[0,1,2,3],[0,1,2,3],[0,1,2,3,4,5,6],[0,1,2,3,4,5,6],[0,1,2,3],[0,1],[0,1],[],[],[]]),(10,[[],[],[],[0,1,2],[0,1,2],[],[0,1,2,3,4,5],[0,1,2,3,4,5],[],[0,1,2,3,4,5,6,7,8],[0,1,2,3,4,5,6,7,8],[],[5,8,11],[],[],[],[],[],[],[]]),(13,[[],[],[],[0,1,2],[0,1,2],[],[5],[],[],[]])],[]⟩ ⟨aRE,aRG,aRH,aRD,aRb,aQ3,trivial⟩ Tryz.func55 fun z r _ h=>(aO8 z.1 r h).elim fun k hk=>⟨k,.trans (by kernel_rfl) hk⟩
theorem aQH:FOk Tryz.prog 56 cofLS:=fk {cx [(44,ctargetsS),(1000000000106,sortIS),(1000000000107,clipIOS),(1000000000108,compactIS)] [28] 39 [2,4,5,7,32,37,38] with rows:=[4,5,32,37] } ⟨[(5,(4,[.own 5 3 ((.int .i64)),.val 24 ((.int .i64)) false]))],[],[],[]⟩ ⟨aIJ,aEY,aI8,aQF,trivial⟩ Tryz.func56 fun z r _ h=>(aQG z.1 z.2.1 r h).elim fun k hk=>⟨k,.trans (by kernel_rfl) hk⟩
theorem aOg:FOk Tryz.prog 111 maxL15S:=fk (cx [] [] 25 []) ⟨[(5,(3,[.val 3 ((.int .i64)) false,.val 4 ((.int .i64)) false]))],[],[],[]⟩ trivial Tryz.func111 fun z r _ h=>(aOf z.1 r h).elim fun k hk=>⟨k,.trans (by kernel_rfl) hk⟩
theorem aNp:FOk Tryz.prog 58 pleastS:=fk {cx [(17,pcostS),(48,pshapeS),(49,fstepS),(2000000000111,maxL15S)] [] 93 [3,6,28,12,13] with rows:=[6,28],thaws:=[4000089] } ⟨[(4,(19,[.val 32 ((.int .i64)) false,.row 28 3 ((.int .i64))])),(7,(13,[.val 10 (.bool) false,.val 36 ((.int .i64)) false,.row 28 3 ((.int .i64))])),(13,(6,[.val 10 (.bool) false,.val 60 ((.int .i64)) false,.row 28 3 ((.int .i64))]))],[],[(15,[[],[0],[],[0,1,2],[0,1,2,3],[0,1,2],[0,1,2],[],[]])],[]⟩ ⟨aCJ,aGa,aHZ,aOg,trivial⟩ Tryz.func58 fun z r _ h=>(aNo z.1 z.2.1 z.2.2.1 r h).elim fun k hk=>⟨k,.trans (by kernel_rfl) hk⟩
theorem aNt:FOk Tryz.prog 23 pfillS:=fk {cx [(55,icopyHS),(57,ringsS),(59,cyclicS),(2000000000056,cofLS),(2000000000058,pleastS)] [25] 106 [2,4,18,2002003,28,54] with thaws:=[28,105,1000063,2000004,2000059,2000102,3000026,3000051],lnks:=[(28,[3])] } ⟨[(4,(5,[.val 6 (kI) true,.val 22 ((.int .i64)) false,.lnk 2002003 42 (gP)])),(10,(20,[.val 40 ((.int .i64)) false,.lnk 2002003 42 (gP)])),(13,(7,[.val 46 ((.int .i64)) false,.lnk 2002003 42 (gP)])),(21,(8,[.val 69 ((.int .i64)) false,.lnk 2002003 42 (gP)]))],[(23,(3,[.lnk 2002003 42 (gP)]))],[(25,[[],[],[0,1],[0,1,2],[0,1,2],[0,1,2],[],[],[]])],[]⟩ ⟨aO9,aMh,aQf,aQH,aNp,trivial⟩ Tryz.func23 fun z r _ h=>(aNs z.1 z.2.1 r h).elim fun k hk=>⟨k,.trans (by kernel_rfl) hk⟩
theorem aLG:FOk Tryz.prog 37 sane15S:=fk (cx [(39,r5saneS)] [] 24 [1]) A0 ⟨aFQ,trivial⟩ Tryz.func37 fun z r _ h=>⟨0,.trans (by kernel_rfl) ((aLF z.1).trans h)⟩
theorem aKb:FOk Tryz.prog 13 typed15S:=fk (cx [(37,sane15S),(38,r8allS)] [] 17 [1]) A0 ⟨aLG,aFK,trivial⟩ Tryz.func13 fun z r _ h=>⟨0,.trans (by kernel_rfl) h⟩
theorem aRu:FOk Tryz.prog 14 awake15S:=fk (cx [(15,pcheckS),(17,pcostS),(18,r14costS),(19,prulesS),(23,pfillS),(38,r8allS),(39,r5saneS)] [] 121 [1,6]) ⟨[],[],[(6,[[],[],[],[],[],[],[],[],[],[],[],[],[],[],[],[],[],[],[],[],[],[],[],[],[],[],[],[],[],[],[],[],[],[],[],[],[],[],[],[],[],[],[],[42],[42],[42],[42],[42],[42],[42],[],[],[],[],[],[54],[],[],[],[],[],[],[],[],[],[],[],[66],[66],[66],[66],[66],[66],[66],[],[],[],[]])],[]⟩ ⟨aGo,aCJ,aF3,aGc,aNt,aFK,aFQ,trivial⟩ Tryz.func14 fun z r _ h=>⟨0,.trans (by kernel_rfl) h⟩
theorem aNl (hl:∀z,wL Tryz.prog aAM z→aCE z.1=some (true,())):FOk Tryz.prog 3 potChecksS:=fk (cx [(13,typed15S),(14,awake15S),(15,pcheckS),(16,r14potsS)] [] 46 [1]) A0 ⟨aKb,aRu,aGo,aM8,trivial⟩ Tryz.func3 fun z r _ h=>by
 by_cases hw:wL Tryz.prog aAM z
 ·exact⟨0,.trans (by kernel_rfl) ((hl z hw).trans ((if_pos hw).symm.trans h))⟩
 ·have hn:potChecksS.run z=none:=if_neg hw
  rw[hn] at h
  cases h
end
end Go.Pli
