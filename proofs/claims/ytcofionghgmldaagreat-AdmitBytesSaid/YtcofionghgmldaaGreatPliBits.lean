/- Bits: what the loops come to. -/
import Derived.Test.YtcofionghgmldaaGreatPliSp
import Derived.KernelRfl
namespace Go.Pli
open Go Go.PM
theorem aKj:∀(j v:Nat) (b:List Int),v<128 ^ (j+1)→v<9223372036854775808→b.length+j+1<rowMax→aD yN (j+1) ((v:Int),b,())=some (b++eI j v,())
 | 0,v,b,h1,h2,h3=>by
  have hv:v<128:=by simpa using h1
  have hw:IntKind.u8.wrap (v:Int)=v:=by rw[IntKind.wrap_u8];omega
  have h3':b.length+1<rowMax:=by omega
  have hd:¬(128:Int)≤v:=by omega
  simp[aD,yN,hd,hw,h3',eI]
 | j+1,v,b,h1,h2,h3=>by
  have ih:=aKj j (v/128);rw[aD];have h3':b.length+1<rowMax:=by omega
  by_cases hv:v<128
  ·have hw:IntKind.u8.wrap (v:Int)=v:=by rw[IntKind.wrap_u8];omega
   have hd:¬(128:Int)≤v:=by omega
   simp[yN,hd,hw,h3',eI,hv]
  ·have hd:(128:Int)≤v:=by omega
   have hm:(v:Int).tmod 128=((v % 128:Nat):Int):=by
    rw[Int.tmod_eq_emod_of_nonneg (by omega)];omega
   have hq:(v:Int).tdiv 128=((v/128:Nat):Int):=by
    rw[Int.tdiv_eq_ediv_of_nonneg (by omega)];omega
   have hw:IntKind.u8.wrap (IntKind.i64.wrap ((128:Int)+((v % 128:Nat):Int)))=((128+v % 128:Nat):Int):=by rw[IntKind.wrap_u8,IntKind.wrap_i64];omega
   have hw2:IntKind.i64.wrap ((v/128:Nat):Int)=((v/128:Nat):Int):=by rw[IntKind.wrap_i64];omega
   have hpow:v/128<128 ^ (j+1):=by
    rw[aEZ (by omega)];rw[vA] at h1;exact h1
   simp only[yN,hm,hq,hw,hw2,eI,if_neg hv];have hge:decide ((v:Int)≥128)=true:=by simpa using hd
   have hlt:decide (b.length+[((128+v % 128:Nat):Int)].length<rowMax)=true:=by simpa using h3'
   rw[hge,hlt];simp only[aA];rw[ih _ hpow (by omega) (by simp;omega)];simp
theorem aSE (n:Int) (r) (h:dN n=some r):∃k,aKk k n=some r:=by
 unfold dN at h;cases hr:Nat.blt n.toNat 9223372036854775808 <;> simp only[hr,aA,aB] at h
 ·cases h
 injection h with h
 subst h;have hlt:n<9223372036854775808:=by
  have:n.toNat<9223372036854775808:=by simpa using hr
  omega
 refine⟨11,?_⟩;have key:aD yN 11 ((n.toNat:Int),([]:List Int),())=some (enc n.toNat,()):=by
  rw[aKj 10 n.toNat [] (by omega) (by omega) (by simp[rowMax])];rfl
 unfold aKk;by_cases hn:n<0
 ·have:n.toNat=0:=by omega
  rw[this] at key;simp only[hn,aK,aA,aF];rw[this];exact key
 ·have:(n.toNat:Int)=n:=by omega
  rw[this] at key;simp only[hn,bB,aB,aF];exact key
end Go.Pli

namespace Go.Pli
open Go Go.PM
theorem bAd (a b:Nat) (ha:a<18446744073709551616) (hb:b<18446744073709551616):IntKind.u64.wrap (((BitVec.ofInt 64 (a:Int) ||| BitVec.ofInt 64 (b:Int)).toNat:Nat):Int)=((a ||| b:Nat):Int):=by
 have h1:(BitVec.ofInt 64 (a:Int)).toNat=a:=by simp;omega
 have h2:(BitVec.ofInt 64 (b:Int)).toNat=b:=by simp;omega
 have hlt:(a ||| b)<2 ^ 64:=Nat.or_lt_two_pow (by omega) (by omega);rw[BitVec.toNat_or,h1,h2,IntKind.wrap_u64];omega
theorem w64 {n:Int} (h0: -9223372036854775808≤n) (h1:n<9223372036854775808):IntKind.i64.wrap n=n:=by
 rw[IntKind.wrap_i64,Int.emod_eq_of_lt (by omega) (by omega)];omega
theorem dig (x m i:Nat) (hi:i≤4) (hx:x<128 ^ i) (hm:m<128):IntKind.u64.wrap ((BitVec.ofInt 64 (x:Int) ||| BitVec.ofInt 64 (IntKind.u64.wrap ((IntKind.u64.wrap (m:Int))*2 ^ (min (IntKind.i64.wrap ((7:Int)*(i:Int))).toNat 64)))).toNat)=((x+128 ^ i*m:Nat):Int):=by
 have h7:(IntKind.i64.wrap ((7:Int)*(i:Int))).toNat=7*i:=by rw[w64 (by omega) (by omega)];omega
 have hmin:min (7*i) 64=7*i:=by omega
 have hm64:IntKind.u64.wrap (m:Int)=m:=by rw[IntKind.wrap_u64];omega
 rw[h7,hmin,hm64];have hpow:(128:Nat) ^ i=2 ^ (7*i):=by rw[show (128:Nat)=2 ^ 7 from rfl,←Nat.pow_mul]
 have hp:(2:Nat) ^ (7*i)≤2 ^ 28:=Nat.pow_le_pow_right (by omega) (by omega);have hmp:m*2 ^ (7*i)<128*2 ^ 28:=rB (Nat.mul_lt_mul_of_pos_right hm (Nat.two_pow_pos _)) (Nat.mul_le_mul_left _ hp);have hc:(m:Int)*2 ^ (7*i)=((m*2 ^ (7*i):Nat):Int):=by push_cast;rfl
 have hw:IntKind.u64.wrap ((m*2 ^ (7*i):Nat):Int)=((m*2 ^ (7*i):Nat):Int):=by rw[IntKind.wrap_u64];omega
 rw[hc,hw,bAd _ _ (by rw[hpow] at hx;omega) (by omega)];have hor:m<<<(7*i)+x=m<<<(7*i) ||| x:=Nat.shiftLeft_add_eq_or_of_lt (by rw[hpow] at hx;exact hx) m;rw[Nat.shiftLeft_eq] at hor;rw[Nat.or_comm,←hor,hpow,Nat.mul_comm m,cS]
theorem aLA (r:Rd):∀(k i x:Nat) (pre l:List Int),r.1=pre++l→pre.length=i→k+i=5→x<128 ^ i→bC (l.take k)=true→
  aD (aBx r) (k+1) ((x:Int),(i:Int),())=match kD k i x l with
   | some (v,n,ok)=>some ((v:Int),ok,(r.1.drop n,r.2.1,()),())
   | none=>some (0,false,r,())
 | 0,i,x,pre,l,hl,hp,hk,hx,hb=>by
  have hi:i=5:=by omega
  subst hi;simp only[aD,kD];unfold aBx;by_cases hlen:(5:Int)<(r.1.length:Int)
  ·have:decide ((0:Int)≤(5:Nat))&&decide (((5:Nat):Int)<r.1.length)=true:=by simpa using hlen
   simp[hlen]
  ·simp[hlen]
 | k+1,i,x,pre,[],hl,hp,hk,hx,hb=>by
  rw[aD];simp only[kD];unfold aBx;have:¬((i:Int)<(r.1.length:Int)):=by rw[hl];simp;omega
  simp[this]
 | k+1,i,x,pre,c::l,hl,hp,hk,hx,hb=>by
  have ih:=aLA r k (i+1) (x+128 ^ i*(c.toNat % 128)) (pre++[c]) l (by rw[hl];simp) (by simp[hp]) (by omega) (by
   rw[vA];have h1:c.toNat % 128≤127:=by omega
   have h2:=Nat.mul_le_mul_left (128 ^ i) h1;omega) (by
   have:bC ((c::l).take (k+1))=true:=hb;simp only[List.take_succ_cons,bC,fA,aC] at this;exact this.2)
  have hc:0≤c∧c<256:=by
   have:bC ((c::l).take (k+1))=true:=hb;simp only[List.take_succ_cons,bC,fA,aC,aO] at this;exact this.1
  rw[aD];have hlen:(i:Int)<(r.1.length:Int):=by rw[hl];simp;omega
  have hget:r.1.getD i 0=c:=by
   rw[hl,eK,dG (by omega)];simp[hp]
  have hi5:¬((i:Int)=5):=by omega
  have h7:¬(IntKind.i64.wrap ((7:Int)*(i:Int))<0):=by rw[w64 (by omega) (by omega)];omega
  have hi1:IntKind.i64.wrap ((i:Int)+1)=((i+1:Nat):Int):=by rw[w64 (by omega) (by omega)];omega
  have hm:c.tmod 128=((c.toNat % 128:Nat):Int):=by
   rw[Int.tmod_eq_emod_of_nonneg hc.1];omega
  have hdig:=dig x (c.toNat % 128) i (by omega) hx (Nat.mod_lt _ (by omega));have hlen2:((i+1:Nat):Int)≤(r.1.length:Int):=by omega
  rw[aBx];simp only[aL,hget,hm,hdig,hi1];rw[show decide ((i:Int)<(r.1.length:Int))=true from aH hlen,show decide ((0:Int)≤(i:Int))=true from aH (by omega),show ((i:Int)==5)=false from by simpa using hi5,
   show decide (IntKind.i64.wrap ((7:Int)*(i:Int))<0)=false from aT h7,show decide ((0:Int)≤((i+1:Nat):Int))=true from aH (by omega),
   show decide (((i+1:Nat):Int)≤(r.1.length:Int))=true from aH hlen2,show decide ((r.1.length:Int)≤(r.1.length:Int))=true from aH (fB _)]
  simp only[aG,aA,aB,bU,kD,iD];by_cases hlt:c<128
  ·simp only[hlt,aK,aA,dA];by_cases h0:i=0
   ·subst h0;simp
   ·have:((i:Int)==0)=false:=by simpa using h0
    have h0':(i==0)=false:=by simpa using h0
    simp[this,h0']
  ·simp only[hlt,bB,aB,cU];exact ih
theorem aUy (r:Rd) (s) (h:next r=some s):∃k,aLB k r=some s:=by
 unfold next at h
 cases hr:bC (r.1.take 5) <;> simp only[hr,aA,aB] at h
 ·cases h
 refine⟨6,?_⟩;have:=aLA r 5 0 0 [] r.1 rfl rfl rfl (by simp) hr;unfold aLB;rw[←h];exact this
end Go.Pli

namespace Go.Pli
open Go Go.PM
theorem aKg (l:List Int) (x:Int) (hlen:l.length<9223372036854775807):∀(m:List Int) (pre:List Int),l=pre++m→aD (aCV l x) (m.length+1) ((pre.length:Int),())=some (m.contains x,())
 | [],pre,hl=>by
  rw[aD,aCV];have:¬((pre.length:Int)<(l.length:Int)):=by rw[hl];simp
  simp[this]
 | c::m,pre,hl=>by
  have ih:=aKg l x hlen m (pre++[c]) (by rw[hl];simp);rw[aJ,aD,aCV];have h1:(pre.length:Int)<(l.length:Int):=by rw[hl];simp;omega
  have hget:l.getD pre.length 0=c:=by rw[hl,eK,dG (by omega)];simp
  have hi1:IntKind.i64.wrap ((pre.length:Int)+1)=(((pre++[c]).length:Nat):Int):=by rw[w64 (by omega) (by omega)];simp
  simp only[aL,hget,hi1];rw[show decide ((pre.length:Int)<(l.length:Int))=true from aH h1,show decide ((0:Int)≤(pre.length:Int))=true from aH (by omega)];simp only[aG,aA];rw[ih];by_cases hc:c=x
  ·subst hc;simp
  ·have h':(c==x)=false:=by simpa using hc
   have h'':(x==c)=false:=by simpa using fun h=>hc h.symm
   rw[List.contains_cons,h',h''];simp
theorem aSw (l:List Int) (x:Int) (r) (h:rin l x=some r):∃k,aSx k l x=some r:=by
 unfold rin at h;cases hr:decide (l.length<9223372036854775807) <;> simp only[hr,aA,aB] at h
 ·cases h
 refine⟨l.length+1,?_⟩;rw[←h];exact aKg l x (zJ hr) l [] rfl
end Go.Pli

namespace Go.Pli
open Go Go.PM
theorem aNR:∀(k v:Nat),(eI k v).length≤k+1
 | 0,v=>by simp[eI]
 | k+1,v=>by
  simp only[eI];split
  ·simp
  ·have:=aNR k (v/128);simp;omega
theorem iV (v:Nat):(enc v).length≤11:=aNR 10 v
theorem aSi {b:List Int} (h:b.length<1000000):aFN b=true:=by
 simp[aFN,rowMax];omega
theorem aF7 {b:List Int} {n:Int} (hb:b.length<1000000) (h0:n<9223372036854775808):put b n=some (b++enc n.toNat,()):=by
 unfold put;rw[aSi hb];have:(IntKind.u64.wrap (max n 0)).toNat=n.toNat:=by rw[IntKind.wrap_u64];omega
 rw[this];rfl
def zg (m:Int):Nat:=(if m<0 then -2*m - 1 else 2*m).toNat
theorem rP {n:Int} (h0:n<9223372036854775808):dN n=some (enc n.toNat,()):=by
 unfold dN;have:Nat.blt n.toNat 9223372036854775808=true:=by simp;omega
 rw[this];rfl
theorem aSa {m:Int} (h0: -2147483648≤m) (h1:m≤2147483647):yK m=some (enc (zg m),()):=by
 unfold yK zg;have hm:IntKind.i64.wrap m=m:=w64 (by omega) (by omega);rw[hm];by_cases h:m<0
 ·have e1:IntKind.i64.wrap ((-2:Int)*m)= -2*m:=w64 (by omega) (by omega);have e2:IntKind.i64.wrap (-2*m - 1)= -2*m - 1:=w64 (by omega) (by omega);rw[e1,e2,rP (by omega),aH h,if_pos h];rfl
 ·have e1:IntKind.i64.wrap ((2:Int)*m)=2*m:=w64 (by omega) (by omega);rw[e1,rP (n:=2*m) (by omega),aT h,if_neg h];rfl
end Go.Pli
