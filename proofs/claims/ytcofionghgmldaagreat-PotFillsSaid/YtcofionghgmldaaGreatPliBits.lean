/- Bits: what the loops come to. -/
import Derived.Test.YtcofionghgmldaaGreatPliSp
import Derived.KernelRfl
namespace Go.Pli
open Go Go.PM
end Go.Pli

namespace Go.Pli
open Go Go.PM
theorem w64 {n:Int} (h0: -9223372036854775808≤n) (h1:n<9223372036854775808):IntKind.i64.wrap n=n:=by
 rw[IntKind.wrap_i64,Int.emod_eq_of_lt (by omega) (by omega)];omega
end Go.Pli

namespace Go.Pli
open Go Go.PM
theorem aGs (l:List Int) (x:Int) (hlen:l.length<9223372036854775807):∀(m:List Int) (pre:List Int),l=pre++m→aE (aAR l x) (m.length+1) ((pre.length:Int),())=some (m.contains x,())
 | [],pre,hl=>by
  rw[aE,aAR]
  have:¬((pre.length:Int)<(l.length:Int)):=by rw[hl];simp
  simp[this]
 | c::m,pre,hl=>by
  have ih:=aGs l x hlen m (pre++[c]) (by rw[hl];simp)
  rw[aF,aE,aAR]
  have h1:(pre.length:Int)<(l.length:Int):=by rw[hl];simp;omega
  have hget:l.getD pre.length 0=c:=by rw[hl,dA,cT (by omega)];simp
  have hi1:IntKind.i64.wrap ((pre.length:Int)+1)=(((pre++[c]).length:Nat):Int):=by rw[w64 (by omega) (by omega)];simp
  simp only[aR,hget,hi1]
  rw[show decide ((pre.length:Int)<(l.length:Int))=true from aI h1,show decide ((0:Int)≤(pre.length:Int))=true from aI (by omega)]
  simp only[aH,aA]
  rw[ih]
  by_cases hc:c=x
  ·subst hc;simp
  ·have h':(c==x)=false:=by simpa using hc
   have h'':(x==c)=false:=by simpa using fun h=>hc h.symm
   rw[List.contains_cons,h',h'']
   simp
theorem aNA (l:List Int) (x:Int) (r) (h:rin l x=some r):∃k,aNB k l x=some r:=by
 unfold rin at h
 cases hr:decide (l.length<9223372036854775807) <;> simp only[hr,aA,aB] at h
 ·cases h
 refine⟨l.length+1,?_⟩
 rw[←h]
 exact aGs l x (qX hr) l [] rfl
end Go.Pli

namespace Go.Pli
open Go Go.PM
theorem aJw:∀(k v:Nat),(gZ k v).length≤k+1
 | 0,v=>by simp[gZ]
 | k+1,v=>by
  simp only[gZ]
  split
  ·simp
  ·have:=aJw k (v/128)
   simp;omega
theorem aJt (v:Nat):(enc v).length≤11:=aJw 10 v
theorem aNm {b:List Int} (h:b.length<1000000):aC6 b=true:=by
 simp[aC6,rowMax];omega
theorem aDd {b:List Int} {n:Int} (hb:b.length<1000000) (h0:n<9223372036854775808):put b n=some (b++enc n.toNat,()):=by
 unfold put
 rw[aNm hb]
 have:(IntKind.u64.wrap (max n 0)).toNat=n.toNat:=by rw[IntKind.wrap_u64];omega
 rw[this]
 rfl
end Go.Pli
