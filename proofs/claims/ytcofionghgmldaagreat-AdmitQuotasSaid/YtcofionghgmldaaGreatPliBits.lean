/- Bits: what the loops come to. -/
import Derived.Test.YtcofionghgmldaaGreatPliSp
import Derived.KernelRfl
namespace Go.Pli
open Go Go.PM
end Go.Pli

namespace Go.Pli
open Go Go.PM
theorem aVv (a b:Nat) (ha:a<18446744073709551616) (hb:b<18446744073709551616):IntKind.u64.wrap (((BitVec.ofInt 64 (a:Int) ||| BitVec.ofInt 64 (b:Int)).toNat:Nat):Int)=((a ||| b:Nat):Int):=by
 have h1:(BitVec.ofInt 64 (a:Int)).toNat=a:=by simp;omega
 have h2:(BitVec.ofInt 64 (b:Int)).toNat=b:=by simp;omega
 have hlt:(a ||| b)<2 ^ 64:=Nat.or_lt_two_pow (by omega) (by omega)
 rw[BitVec.toNat_or,h1,h2,IntKind.wrap_u64]
 omega
theorem w64 {n:Int} (h0: -9223372036854775808≤n) (h1:n<9223372036854775808):IntKind.i64.wrap n=n:=by
 rw[IntKind.wrap_i64,Int.emod_eq_of_lt (by omega) (by omega)];omega
theorem dig (x m i:Nat) (hi:i≤4) (hx:x<128 ^ i) (hm:m<128):IntKind.u64.wrap ((BitVec.ofInt 64 (x:Int) ||| BitVec.ofInt 64 (IntKind.u64.wrap ((IntKind.u64.wrap (m:Int))*2 ^ (min (IntKind.i64.wrap ((7:Int)*(i:Int))).toNat 64)))).toNat)=((x+128 ^ i*m:Nat):Int):=by
 have h7:(IntKind.i64.wrap ((7:Int)*(i:Int))).toNat=7*i:=by rw[w64 (by omega) (by omega)];omega
 have hmin:min (7*i) 64=7*i:=by omega
 have hm64:IntKind.u64.wrap (m:Int)=m:=by rw[IntKind.wrap_u64];omega
 rw[h7,hmin,hm64]
 have hpow:(128:Nat) ^ i=2 ^ (7*i):=by rw[show (128:Nat)=2 ^ 7 from rfl,←Nat.pow_mul]
 have hp:(2:Nat) ^ (7*i)≤2 ^ 28:=Nat.pow_le_pow_right (by omega) (by omega)
 have hmp:m*2 ^ (7*i)<128*2 ^ 28:=Nat.lt_of_lt_of_le (Nat.mul_lt_mul_of_pos_right hm (Nat.two_pow_pos _)) (Nat.mul_le_mul_left _ hp)
 have hc:(m:Int)*2 ^ (7*i)=((m*2 ^ (7*i):Nat):Int):=by push_cast;rfl
 have hw:IntKind.u64.wrap ((m*2 ^ (7*i):Nat):Int)=((m*2 ^ (7*i):Nat):Int):=by rw[IntKind.wrap_u64];omega
 rw[hc,hw,aVv _ _ (by rw[hpow] at hx;omega) (by omega)]
 have hor:m<<<(7*i)+x=m<<<(7*i) ||| x:=Nat.shiftLeft_add_eq_or_of_lt (by rw[hpow] at hx;exact hx) m
 rw[Nat.shiftLeft_eq] at hor
 rw[Nat.or_comm,←hor,hpow,Nat.mul_comm m,Nat.add_comm]
theorem aHr (r:Rd):∀(k i x:Nat) (pre l:List Int),r.1=pre++l→pre.length=i→k+i=5→x<128 ^ i→fK (l.take k)=true→
  aA (aCg r) (k+1) ((x:Int),(i:Int),())=match sK k i x l with
   | some (v,n,ok)=>some ((v:Int),ok,(r.1.drop n,r.2.1,()),())
   | none=>some (0,false,r,())
 | 0,i,x,pre,l,hl,hp,hk,hx,hb=>by
  have hi:i=5:=by omega
  subst hi
  simp only[aA,sK]
  unfold aCg
  by_cases hlen:(5:Int)<(r.1.length:Int)
  ·have:decide ((0:Int)≤(5:Nat))&&decide (((5:Nat):Int)<r.1.length)=true:=by simpa using hlen
   simp[hlen]
  ·simp[hlen]
 | k+1,i,x,pre,[],hl,hp,hk,hx,hb=>by
  rw[aA]
  simp only[sK]
  unfold aCg
  have:¬((i:Int)<(r.1.length:Int)):=by rw[hl];simp;omega
  simp[this]
 | k+1,i,x,pre,c::l,hl,hp,hk,hx,hb=>by
  have ih:=aHr r k (i+1) (x+128 ^ i*(c.toNat % 128)) (pre++[c]) l (by rw[hl];simp) (by simp[hp]) (by omega) (by
   rw[Nat.pow_succ]
   have h1:c.toNat % 128≤127:=by omega
   have h2:=Nat.mul_le_mul_left (128 ^ i) h1
   omega) (by
   have:fK ((c::l).take (k+1))=true:=hb
   simp only[List.take_succ_cons,fK,List.all_cons,Bool.and_eq_true] at this
   exact this.2)
  have hc:0≤c∧c<256:=by
   have:fK ((c::l).take (k+1))=true:=hb
   simp only[List.take_succ_cons,fK,List.all_cons,Bool.and_eq_true,decide_eq_true_eq] at this
   exact this.1
  rw[aA]
  have hlen:(i:Int)<(r.1.length:Int):=by rw[hl];simp;omega
  have hget:r.1.getD i 0=c:=by
   rw[hl,List.getD_eq_getElem?_getD,List.getElem?_append_right (by omega)]
   simp[hp]
  have hi5:¬((i:Int)=5):=by omega
  have h7:¬(IntKind.i64.wrap ((7:Int)*(i:Int))<0):=by rw[w64 (by omega) (by omega)];omega
  have hi1:IntKind.i64.wrap ((i:Int)+1)=((i+1:Nat):Int):=by rw[w64 (by omega) (by omega)];omega
  have hm:c.tmod 128=((c.toNat % 128:Nat):Int):=by
   rw[Int.tmod_eq_emod_of_nonneg hc.1];omega
  have hdig:=dig x (c.toNat % 128) i (by omega) hx (Nat.mod_lt _ (by omega))
  have hlen2:((i+1:Nat):Int)≤(r.1.length:Int):=by omega
  rw[aCg]
  simp only[Int.toNat_natCast,hget,hm,hdig,hi1]
  rw[show decide ((i:Int)<(r.1.length:Int))=true from decide_eq_true hlen,show decide ((0:Int)≤(i:Int))=true from decide_eq_true (by omega),show ((i:Int)==5)=false from by simpa using hi5,
   show decide (IntKind.i64.wrap ((7:Int)*(i:Int))<0)=false from decide_eq_false h7,show decide ((0:Int)≤((i+1:Nat):Int))=true from decide_eq_true (by omega),
   show decide (((i+1:Nat):Int)≤(r.1.length:Int))=true from decide_eq_true hlen2,show decide ((r.1.length:Int)≤(r.1.length:Int))=true from decide_eq_true (Int.le_refl _)]
  simp only[Bool.and_self,cond_true,cond_false,Bool.not_false,sK,List.take_length]
  by_cases hlt:c<128
  ·simp only[hlt,decide_true,cond_true,if_true]
   by_cases h0:i=0
   ·subst h0
    simp
   ·have:((i:Int)==0)=false:=by simpa using h0
    have h0':(i==0)=false:=by simpa using h0
    simp[this,h0']
  ·simp only[hlt,decide_false,cond_false,if_false]
   exact ih
theorem aT7 (r:Rd) (s) (h:next r=some s):∃k,aSY k r=some s:=by
 unfold next at h
 cases hr:fK (r.1.take 5) <;> simp only[hr,cond_true,cond_false] at h
 ·cases h
 refine⟨6,?_⟩
 have:=aHr r 5 0 0 [] r.1 rfl rfl rfl (by simp) hr
 unfold aSY
 rw[←h]
 exact this
end Go.Pli

namespace Go.Pli
open Go Go.PM
theorem aIM (l:List Int) (x:Int) (hlen:l.length<9223372036854775807):∀(m:List Int) (pre:List Int),l=pre++m→aA (aId l x) (m.length+1) ((pre.length:Int),())=some (m.contains x,())
 | [],pre,hl=>by
  rw[aA,aId]
  have:¬((pre.length:Int)<(l.length:Int)):=by rw[hl];simp
  simp[this]
 | c::m,pre,hl=>by
  have ih:=aIM l x hlen m (pre++[c]) (by rw[hl];simp)
  rw[List.length_cons,aA,aId]
  have h1:(pre.length:Int)<(l.length:Int):=by rw[hl];simp;omega
  have hget:l.getD pre.length 0=c:=by rw[hl,List.getD_eq_getElem?_getD,List.getElem?_append_right (by omega)];simp
  have hi1:IntKind.i64.wrap ((pre.length:Int)+1)=(((pre++[c]).length:Nat):Int):=by rw[w64 (by omega) (by omega)];simp
  simp only[Int.toNat_natCast,hget,hi1]
  rw[show decide ((pre.length:Int)<(l.length:Int))=true from decide_eq_true h1,show decide ((0:Int)≤(pre.length:Int))=true from decide_eq_true (by omega)]
  simp only[Bool.and_self,cond_true]
  rw[ih]
  by_cases hc:c=x
  ·subst hc;simp
  ·have h':(c==x)=false:=by simpa using hc
   have h'':(x==c)=false:=by simpa using fun h=>hc h.symm
   rw[List.contains_cons,h',h'']
   simp
theorem aVi (l:List Int) (x:Int) (r) (h:rin l x=some r):∃k,aVP k l x=some r:=by
 unfold rin at h
 cases hr:decide (l.length<9223372036854775807) <;> simp only[hr,cond_true,cond_false] at h
 ·cases h
 refine⟨l.length+1,?_⟩
 rw[←h]
 exact aIM l x (of_decide_eq_true hr) l [] rfl
end Go.Pli

namespace Go.Pli
open Go Go.PM
theorem aDC:∀(k v:Nat),(kN k v).length≤k+1
 | 0,v=>by simp[kN]
 | k+1,v=>by
  simp only[kN]
  split
  ·simp
  ·have:=aDC k (v/128)
   simp;omega
theorem aFK (v:Nat):(enc v).length≤11:=aDC 10 v
theorem aN1 {b:List Int} (h:b.length<1000000):aGK b=true:=by
 simp[aGK,rowMax];omega
theorem aI4 {b:List Int} {n:Int} (hb:b.length<1000000) (h0:n<9223372036854775808):put b n=some (b++enc n.toNat,()):=by
 unfold put
 rw[aN1 hb]
 have:(IntKind.u64.wrap (max n 0)).toNat=n.toNat:=by rw[IntKind.wrap_u64];omega
 rw[this]
 rfl
end Go.Pli
