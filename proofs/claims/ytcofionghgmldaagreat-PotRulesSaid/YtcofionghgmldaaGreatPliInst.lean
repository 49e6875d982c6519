/- Instructions: what the functions come to. -/
import Derived.Test.YtcofionghgmldaaGreatPliBits
import Derived.Laws.Strings
namespace Go.Pli
open Go Go.PM
theorem aHD (o:Int):eH o= -1∨eH o=0∨eH o=1∨eH o=2:=by
  unfold eH
  cases ([1,3,4,18,19,22,23,29,30,31,34]:List Int).contains o <;> cases (o==27 || (o==28 || o==32)) <;> cases (decide (o<1) || decide (o>34)) <;> simp
theorem aMo (o:Int):aFC o=some (pP o,()):=by
  unfold aFC pP
  have hr:rin ([1,3,4,18,19,22,23,29,30,31,34]:List Int) o=some (([1,3,4,18,19,22,23,29,30,31,34]:List Int).contains o,()):=rfl
  rw[hr]
  by_cases h1:o<1
  · have hc:([1,3,4,18,19,22,23,29,30,31,34]:List Int).contains o=false:=by
      simp;omega
    have h2:(o==27 || (o==28 || o==32))=false:=by simp;omega
    unfold eH
    rw[hc,h2,aG h1];rfl
  by_cases h34:o>34
  · have hc:([1,3,4,18,19,22,23,29,30,31,34]:List Int).contains o=false:=by
      simp;omega
    have h2:(o==27 || (o==28 || o==32))=false:=by simp;omega
    unfold eH
    rw[hc,h2,bH h1,aG h34];rfl
  unfold eH
  rw[bH h1,bH h34]
  simp only[aJ]
  cases ([1,3,4,18,19,22,23,29,30,31,34]:List Int).contains o <;> cases o==27 <;> cases o==28 <;> cases o==32 <;> rfl
theorem aMa (i:Ins):aFu i=some (xJ i,()):=by
  unfold aFu xJ fF pP wN
  generalize i.2.1=a
  generalize i.2.2.1=b
  rcases aHD i.1 with h | h | h | h <;> rw[h] <;> by_cases ha:a=0 <;> by_cases hb:b=0 <;>
    first
      | (subst ha;subst hb;rfl)
      | (subst ha;have hb':(b==0)=false:=by simpa using hb
         have hb2:(b !=0)=true:=by simpa using hb
         simp only[hb',hb2];cases decide (b≥0) <;> cases decide (b≤255) <;> rfl)
      | (subst hb;have ha':(a==0)=false:=by simpa using ha
         have ha2:(a !=0)=true:=by simpa using ha
         simp only[ha',ha2];cases decide (a≥0) <;> cases decide (a≤255) <;> rfl)
      | (have ha':(a==0)=false:=by simpa using ha
         have ha2:(a !=0)=true:=by simpa using ha
         have hb':(b==0)=false:=by simpa using hb
         have hb2:(b !=0)=true:=by simpa using hb
         simp only[ha',ha2,hb',hb2];cases decide (a≥0) <;> cases decide (a≤255) <;> cases decide (b≥0) <;> cases decide (b≤255) <;> rfl)
end Go.Pli

namespace Go.Pli
open Go Go.PM
theorem aIs {j v:Nat} (h:v<128):gG j v=[(v:Int)]:=by
 cases j with
 | zero=>rfl
 | succ j=>simp[gG,h]
theorem aIt:∀(j v:Nat),v<128 ^ (j+1)→gG (j+1) v=gG j v
 | 0,v,h=>by
  have h0:v<128:=by simpa using h
  simp[gG,h0]
 | j+1,v,h=>by
  have ih:=aIt j (v/128) (by rw[Nat.div_lt_iff_lt_mul (by omega)];rw[Nat.pow_succ] at h;exact h)
  rw[gG]
  conv=>rhs;rw[gG]
  rw[ih]
theorem aIv {j m v:Nat} (h:v<128 ^ (j+1)) (hm:j≤m):gG m v=gG j v:=by
 induction m with
 | zero=>have:j=0:=by omega
         subst this;rfl
 | succ m ih=>
  rcases eQ j (m+1) with hj | hj
  ·have hp:(128:Nat) ^ (j+1)≤128 ^ (m+1):=Nat.pow_le_pow_right (by omega) (by omega)
   rw[aIt m v (by omega),ih (by omega)]
  ·have:j=m+1:=by omega
   subst this;rfl
theorem aIy:∀(k i x:Nat) (l:List Int) (y n:Nat),kT (l.take k)=true→qH k i x l=some (y,n,true)→
  ∃v m,y=x+128 ^ i*v∧n=i+m∧1≤m∧m≤l.length∧l.take m=gG (k - 1) v∧v<128 ^ k∧(i=0∨0<v)
 | 0,_,_,_,_,_,_,h=>by simp[qH] at h
 | k+1,_,_,[],_,_,_,h=>by simp[qH] at h
 | k+1,i,x,c::l,y,n,hb,h=>by
  have hb':(decide (0≤c)&&decide (c<256))=true∧kT (l.take k)=true:=by
   have:kT ((c::l).take (k+1))=true:=hb
   simpa only[List.take_succ_cons,kT,eY,aC] using this
  have hc:0≤c∧c<256:=by simpa using hb'.1
  simp only[qH] at h
  split at h
  ·rename_i hlt
   simp only[bV,kX,fW,gN,aP] at h
   obtain⟨h1,h2,h3⟩:=h
   have hm:c.toNat % 128=c.toNat:=by omega
   refine⟨c.toNat,1,by rw[←h1,hm],h2.symm,by omega,by simp,?_,?_,by omega⟩
   ·rw[aIs (by omega)]
    simp;omega
   ·have:(128:Nat) ^ 1≤128 ^ (k+1):=Nat.pow_le_pow_right (by omega) (by omega)
    omega
  ·rename_i hlt
   obtain⟨v,m,e1,e2,e3,e4,e5,e6,e7⟩:=aIy k (i+1) _ l y n hb'.2 h
   have hv:0<v:=by omega
   have hk1:1≤k:=by
    rcases Nat.eq_zero_or_pos k with h | h
    ·subst h;simp at e6;omega
    ·exact h
   refine⟨c.toNat % 128+128*v,m+1,?_,by omega,by omega,by simp;omega,?_,?_,.inr (by omega)⟩
   ·rw[e1,Nat.pow_succ,Nat.mul_add,bF,Nat.mul_assoc]
   ·obtain⟨k',rfl⟩:∃k',k=k'+1:=⟨k - 1,by omega⟩
    have hnl:¬(c.toNat % 128+128*v<128):=by omega
    simp only[Nat.add_sub_cancel] at e5⊢
    rw[List.take_succ_cons,e5,gG,if_neg hnl]
    have a1:(c.toNat % 128+128*v) % 128=c.toNat % 128:=by omega
    have a2:(c.toNat % 128+128*v)/128=v:=by omega
    rw[a1,a2]
    congr 1
    omega
   ·rw[Nat.pow_succ]
    have:=gH 128 (show v+1≤128 ^ k from e6)
    omega
theorem aRg {l:List Int} (n:Nat) (h:kT l=true):kT (l.take n)=true:=by
 simp only[kT,bL] at h⊢
 exact fun x hx=>h x (aEd hx)
end Go.Pli

namespace Go.Pli
open Go Go.PM
def qB (i:Ins):List Int:=enc i.1.toNat++(bif decide (eH i.1<1) then[] else enc i.2.1.toNat++(bif decide (eH i.1<2) then[] else enc i.2.2.1.toNat))
theorem aOK {b:List Int} {i:Ins} (hb:b.length<900000) (h1:i.1<9223372036854775808) (h2:i.2.1<9223372036854775808) (h3:i.2.2.1<9223372036854775808):aDl b i=some (b++qB i,()):=by
 unfold aDl qB
 have l1:=aIr i.1.toNat
 have l2:=aIr i.2.1.toNat
 rw[aCu (by omega) h1]
 simp only[aJ]
 cases decide (eH i.1<1)
 ·simp only[aB]
  rw[aCu (by simp;omega) h2]
  simp only[aJ]
  cases decide (eH i.1<2)
  ·simp only[aB]
   rw[aCu (by simp;omega) h3]
   simp
  ·simp
 ·simp
theorem aDw {i:Ins} (h:fF i=true):(1≤i.1∧i.1≤34)∧(0≤i.2.1∧i.2.1≤255)∧(0≤i.2.2.1∧i.2.2.1≤255)∧(eH i.1<1→i.2.1=0)∧(eH i.1<2→i.2.2.1=0):=by
 unfold fF wN at h
 have hr:eH i.1≥0→1≤i.1∧i.1≤34:=by
  intro h0
  unfold eH at h0
  by_cases h1:i.1<1
  ·have hc:([1,3,4,18,19,22,23,29,30,31,34]:List Int).contains i.1=false:=by simp;omega
   have h2:(i.1==27 || (i.1==28 || i.1==32))=false:=by simp;omega
   rw[hc,h2,aG h1,sY] at h0
   exact absurd h0 (by decide)
  by_cases h34:i.1>34
  ·have hc:([1,3,4,18,19,22,23,29,30,31,34]:List Int).contains i.1=false:=by simp;omega
   have h2:(i.1==27 || (i.1==28 || i.1==32))=false:=by simp;omega
   rw[hc,h2,aG h34,Bool.or_true] at h0
   exact absurd h0 (by decide)
  omega
 rcases aHD i.1 with ha | ha | ha | ha <;> rw[ha] at h hr⊢ <;> simp at h hr⊢ <;> omega
end Go.Pli

namespace Go.Pli
open Go Go.PM
end Go.Pli

namespace Go.Pli
open Go Go.PM
def flat (l:List Ins):List Int:=(l.filter fF).flatMap qB
theorem aPy {i:Ins} {l:List Ins} (h:fF i=true):flat (i::l)=qB i++flat l:=by simp[flat,h]
theorem aPz {i:Ins} {l:List Ins} (h:fF i=false):flat (i::l)=flat l:=by simp[flat,h]
theorem aPY {v:Nat} (h:v<128):(enc v).length=1:=by unfold enc;rw[aIs h];rfl
theorem aIq {v:Nat} (h:v<16384):1≤(enc v).length∧(enc v).length≤2:=by
 have:enc v=gG 1 v:=aIv (by omega) (by omega)
 rw[this,gG]
 split <;> simp[gG]
theorem aPa {i:Ins} (h:fF i=true):1≤(qB i).length∧(qB i).length≤5:=by
 obtain⟨o,a,b,-⟩:=aDw h
 have l1:=aPY (v:=i.1.toNat) (by omega)
 have l2:=aIq (v:=i.2.1.toNat) (by omega)
 have l3:=aIq (v:=i.2.2.1.toNat) (by omega)
 unfold qB
 cases decide (eH i.1<1) <;> cases decide (eH i.1<2) <;> simp <;> omega
theorem aRs {α:Type} {l pre m:List α} {x d:α} (hl:l.take 60=pre++x::m):pre.length<l.length∧pre.length<60∧l.getD pre.length d=x:=by
 have h1:(l.take 60)[pre.length]? =some x:=by rw[hl];simp
 rw[eN] at h1
 split at h1
 ·rename_i hlt
  refine⟨(cI.1 h1).1,hlt,?_⟩
  rw[List.getD,h1];rfl
 ·cases h1
theorem aRt {α:Type} {l pre:List α} (hl:l.take 60=pre):¬(pre.length<l.length∧pre.length<60):=by
 rw[←hl,bR]
 omega
theorem xH (l:List Ins):∀(m pre:List Ins) (b:List Int) (n:Int),l.take 60=pre++m→b.length≤100*pre.length→0≤n→n≤pre.length→
  aE (aDn l) (m.length+1) (b,n,(pre.length:Int),())=some (.inl (b++flat m,n+((m.filter fF).length:Int),()))
 | [],pre,b,n,hl,hb,hn,hn2=>by
  rw[bS] at hl
  have he:=aRt hl
  rw[bI,aE,aDn]
  by_cases h:pre.length<l.length
  ·have h2:¬((pre.length:Int)<60):=by omega
   simp[h,h2,flat]
  ·have h2:¬((pre.length:Int)<(l.length:Int)):=by omega
   simp[h,flat]
 | x::m,pre,b,n,hl,hb,hn,hn2=>by
  obtain⟨h1,h2,h3⟩:=aRs (d:=((0:Int),((0:Int),((0:Int),())))) hl
  have hl':l.take 60=(pre++[x])++m:=by rw[hl];simp
  have hw:IntKind.i64.wrap ((pre.length:Int)+1)=(((pre++[x]).length:Nat):Int):=by rw[w64 (by omega) (by omega)];simp
  have hwn:IntKind.i64.wrap (n+1)=n+1:=w64 (by omega) (by omega)
  rw[aF,aE,aDn]
  simp only[aT,h3,hw,hwn,aG (show (pre.length:Int)<(l.length:Int) by omega),aG (show (pre.length:Int)<60 by omega),aG (show (0:Int)≤(pre.length:Int) by omega),aI,aA]
  cases hg:fF x
  ·have ih:=xH l m (pre++[x]) b n hl' (by simp;omega) hn (by simp;omega)
   simp only[aB]
   rw[ih,aPz hg,List.filter_cons_of_neg (by simp[hg])]
  ·obtain⟨g1,g2,g3,-⟩:=aDw hg
   have hlen:=aPa hg
   simp only[aA]
   rw[aOK (by omega) (by omega) (by omega) (by omega)]
   have ih:=xH l m (pre++[x]) (b++qB x) (n+1) hl' (by simp;omega) (by omega) (by simp;omega)
   simp only[aJ]
   rw[ih,aPy hg,List.filter_cons_of_pos hg]
   simp only[bX,aF]
   congr 4
   omega
end Go.Pli
