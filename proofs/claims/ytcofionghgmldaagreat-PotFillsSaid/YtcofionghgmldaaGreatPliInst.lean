/- Instructions: what the functions come to. -/
import Derived.Test.YtcofionghgmldaaGreatPliBits
import Derived.Laws.Strings
namespace Go.Pli
open Go Go.PM
theorem aIC (o:Int):eL o= -1∨eL o=0∨eL o=1∨eL o=2:=by
  unfold eL
  cases ([1,3,4,18,19,22,23,29,30,31,34]:List Int).contains o <;> cases (o==27 || (o==28 || o==32)) <;> cases (decide (o<1) || decide (o>34)) <;> simp
theorem aNK (o:Int):aGz o=some (qS o,()):=by
  unfold aGz qS
  have hr:rin ([1,3,4,18,19,22,23,29,30,31,34]:List Int) o=some (([1,3,4,18,19,22,23,29,30,31,34]:List Int).contains o,()):=rfl
  rw[hr]
  by_cases h1:o<1
  · have hc:([1,3,4,18,19,22,23,29,30,31,34]:List Int).contains o=false:=by
      simp;omega
    have h2:(o==27 || (o==28 || o==32))=false:=by simp;omega
    unfold eL
    rw[hc,h2,aI h1];rfl
  by_cases h34:o>34
  · have hc:([1,3,4,18,19,22,23,29,30,31,34]:List Int).contains o=false:=by
      simp;omega
    have h2:(o==27 || (o==28 || o==32))=false:=by simp;omega
    unfold eL
    rw[hc,h2,bM h1,aI h34];rfl
  unfold eL
  rw[bM h1,bM h34]
  simp only[aK]
  cases ([1,3,4,18,19,22,23,29,30,31,34]:List Int).contains o <;> cases o==27 <;> cases o==28 <;> cases o==32 <;> rfl
theorem aNw (i:Ins):aGp i=some (yK i,()):=by
  unfold aGp yK fJ qS uP
  generalize i.2.1=a
  generalize i.2.2.1=b
  rcases aIC i.1 with h | h | h | h <;> rw[h] <;> by_cases ha:a=0 <;> by_cases hb:b=0 <;>
    first
      | (subst ha;subst hb;rfl)
      | (subst ha;have hb':(b==0)=false:=by simpa using hb
         have hb2:(b !=0)=true:=by simpa using hb
         simp only[hb',hb2];cases decide (b≥0) <;> cases decide (b≤255) <;> rfl)
      | (subst hb;have ha':(a==0)=false:=by simpa using ha
         have ha2:(a !=0)=true:=by simpa using ha
         simp only[ha',ha2];cases decide (a≥0) <;> cases decide (a≤255) <;> rfl)
      | (have ha':(a==0)=false:=by simpa using ha
         have ha2:(a !=0)=true:=by simpa using ha
         have hb':(b==0)=false:=by simpa using hb
         have hb2:(b !=0)=true:=by simpa using hb
         simp only[ha',ha2,hb',hb2];cases decide (a≥0) <;> cases decide (a≤255) <;> cases decide (b≥0) <;> cases decide (b≤255) <;> rfl)
end Go.Pli

namespace Go.Pli
open Go Go.PM
theorem aJu {j v:Nat} (h:v<128):gZ j v=[(v:Int)]:=by
 cases j with
 | zero=>rfl
 | succ j=>simp[gZ,h]
theorem aJv:∀(j v:Nat),v<128 ^ (j+1)→gZ (j+1) v=gZ j v
 | 0,v,h=>by
  have h0:v<128:=by simpa using h
  simp[gZ,h0]
 | j+1,v,h=>by
  have ih:=aJv j (v/128) (by rw[Nat.div_lt_iff_lt_mul (by omega)];rw[Nat.pow_succ] at h;exact h)
  rw[gZ]
  conv=>rhs;rw[gZ]
  rw[ih]
theorem aJx {j m v:Nat} (h:v<128 ^ (j+1)) (hm:j≤m):gZ m v=gZ j v:=by
 induction m with
 | zero=>have:j=0:=by omega
         subst this;rfl
 | succ m ih=>
  rcases eX j (m+1) with hj | hj
  ·have hp:(128:Nat) ^ (j+1)≤128 ^ (m+1):=Nat.pow_le_pow_right (by omega) (by omega)
   rw[aJv m v (by omega),ih (by omega)]
  ·have:j=m+1:=by omega
   subst this;rfl
theorem aJC:∀(k i x:Nat) (l:List Int) (y n:Nat),lU (l.take k)=true→rL k i x l=some (y,n,true)→
  ∃v m,y=x+128 ^ i*v∧n=i+m∧1≤m∧m≤l.length∧l.take m=gZ (k - 1) v∧v<128 ^ k∧(i=0∨0<v)
 | 0,_,_,_,_,_,_,h=>by simp[rL] at h
 | k+1,_,_,[],_,_,_,h=>by simp[rL] at h
 | k+1,i,x,c::l,y,n,hb,h=>by
  have hb':(decide (0≤c)&&decide (c<256))=true∧lU (l.take k)=true:=by
   have:lU ((c::l).take (k+1))=true:=hb
   simpa only[List.take_succ_cons,lU,fS,aC] using this
  have hc:0≤c∧c<256:=by simpa using hb'.1
  simp only[rL] at h
  split at h
  ·rename_i hlt
   simp only[cA,lY,eT,iB,aP] at h
   obtain⟨h1,h2,h3⟩:=h
   have hm:c.toNat % 128=c.toNat:=by omega
   refine⟨c.toNat,1,by rw[←h1,hm],h2.symm,by omega,by simp,?_,?_,by omega⟩
   ·rw[aJu (by omega)]
    simp;omega
   ·have:(128:Nat) ^ 1≤128 ^ (k+1):=Nat.pow_le_pow_right (by omega) (by omega)
    omega
  ·rename_i hlt
   obtain⟨v,m,e1,e2,e3,e4,e5,e6,e7⟩:=aJC k (i+1) _ l y n hb'.2 h
   have hv:0<v:=by omega
   have hk1:1≤k:=by
    rcases Nat.eq_zero_or_pos k with h | h
    ·subst h;simp at e6;omega
    ·exact h
   refine⟨c.toNat % 128+128*v,m+1,?_,by omega,by omega,by simp;omega,?_,?_,.inr (by omega)⟩
   ·rw[e1,Nat.pow_succ,Nat.mul_add,bH,Nat.mul_assoc]
   ·obtain⟨k',rfl⟩:∃k',k=k'+1:=⟨k - 1,by omega⟩
    have hnl:¬(c.toNat % 128+128*v<128):=by omega
    simp only[Nat.add_sub_cancel] at e5⊢
    rw[List.take_succ_cons,e5,gZ,if_neg hnl]
    have a1:(c.toNat % 128+128*v) % 128=c.toNat % 128:=by omega
    have a2:(c.toNat % 128+128*v)/128=v:=by omega
    rw[a1,a2]
    congr 1
    omega
   ·rw[Nat.pow_succ]
    have:=fP 128 (show v+1≤128 ^ k from e6)
    omega
theorem aSZ {l:List Int} (n:Nat) (h:lU l=true):lU (l.take n)=true:=by
 simp only[lU,bO] at h⊢
 exact fun x hx=>h x (aE3 hx)
end Go.Pli

namespace Go.Pli
open Go Go.PM
def rH (i:Ins):List Int:=enc i.1.toNat++(bif decide (eL i.1<1) then[] else enc i.2.1.toNat++(bif decide (eL i.1<2) then[] else enc i.2.2.1.toNat))
theorem aQo {b:List Int} {i:Ins} (hb:b.length<900000) (h1:i.1<9223372036854775808) (h2:i.2.1<9223372036854775808) (h3:i.2.2.1<9223372036854775808):aEc b i=some (b++rH i,()):=by
 unfold aEc rH
 have l1:=aJt i.1.toNat
 have l2:=aJt i.2.1.toNat
 rw[aDd (by omega) h1]
 simp only[aK]
 cases decide (eL i.1<1)
 ·simp only[aB]
  rw[aDd (by simp;omega) h2]
  simp only[aK]
  cases decide (eL i.1<2)
  ·simp only[aB]
   rw[aDd (by simp;omega) h3]
   simp
  ·simp
 ·simp
theorem aEo {i:Ins} (h:fJ i=true):(1≤i.1∧i.1≤34)∧(0≤i.2.1∧i.2.1≤255)∧(0≤i.2.2.1∧i.2.2.1≤255)∧(eL i.1<1→i.2.1=0)∧(eL i.1<2→i.2.2.1=0):=by
 unfold fJ uP at h
 have hr:eL i.1≥0→1≤i.1∧i.1≤34:=by
  intro h0
  unfold eL at h0
  by_cases h1:i.1<1
  ·have hc:([1,3,4,18,19,22,23,29,30,31,34]:List Int).contains i.1=false:=by simp;omega
   have h2:(i.1==27 || (i.1==28 || i.1==32))=false:=by simp;omega
   rw[hc,h2,aI h1,sB] at h0
   exact absurd h0 (by decide)
  by_cases h34:i.1>34
  ·have hc:([1,3,4,18,19,22,23,29,30,31,34]:List Int).contains i.1=false:=by simp;omega
   have h2:(i.1==27 || (i.1==28 || i.1==32))=false:=by simp;omega
   rw[hc,h2,aI h34,Bool.or_true] at h0
   exact absurd h0 (by decide)
  omega
 rcases aIC i.1 with ha | ha | ha | ha <;> rw[ha] at h hr⊢ <;> simp at h hr⊢ <;> omega
end Go.Pli

namespace Go.Pli
open Go Go.PM
end Go.Pli

namespace Go.Pli
open Go Go.PM
def flat (l:List Ins):List Int:=(l.filter fJ).flatMap rH
theorem aRc {i:Ins} {l:List Ins} (h:fJ i=true):flat (i::l)=rH i++flat l:=by simp[flat,h]
theorem aRd {i:Ins} {l:List Ins} (h:fJ i=false):flat (i::l)=flat l:=by simp[flat,h]
theorem aRG {v:Nat} (h:v<128):(enc v).length=1:=by unfold enc;rw[aJu h];rfl
theorem aJs {v:Nat} (h:v<16384):1≤(enc v).length∧(enc v).length≤2:=by
 have:enc v=gZ 1 v:=aJx (by omega) (by omega)
 rw[this,gZ]
 split <;> simp[gZ]
theorem aQO {i:Ins} (h:fJ i=true):1≤(rH i).length∧(rH i).length≤5:=by
 obtain⟨o,a,b,-⟩:=aEo h
 have l1:=aRG (v:=i.1.toNat) (by omega)
 have l2:=aJs (v:=i.2.1.toNat) (by omega)
 have l3:=aJs (v:=i.2.2.1.toNat) (by omega)
 unfold rH
 cases decide (eL i.1<1) <;> cases decide (eL i.1<2) <;> simp <;> omega
theorem aTa {α:Type} {l pre m:List α} {x d:α} (hl:l.take 60=pre++x::m):pre.length<l.length∧pre.length<60∧l.getD pre.length d=x:=by
 have h1:(l.take 60)[pre.length]? =some x:=by rw[hl];simp
 rw[eI] at h1
 split at h1
 ·rename_i hlt
  refine⟨(cS.1 h1).1,hlt,?_⟩
  rw[List.getD,h1];rfl
 ·cases h1
theorem aTb {α:Type} {l pre:List α} (hl:l.take 60=pre):¬(pre.length<l.length∧pre.length<60):=by
 rw[←hl,bN]
 omega
theorem yI (l:List Ins):∀(m pre:List Ins) (b:List Int) (n:Int),l.take 60=pre++m→b.length≤100*pre.length→0≤n→n≤pre.length→
  aE (aEf l) (m.length+1) (b,n,(pre.length:Int),())=some (.inl (b++flat m,n+((m.filter fJ).length:Int),()))
 | [],pre,b,n,hl,hb,hn,hn2=>by
  rw[cB] at hl
  have he:=aTb hl
  rw[bK,aE,aEf]
  by_cases h:pre.length<l.length
  ·have h2:¬((pre.length:Int)<60):=by omega
   simp[h,h2,flat]
  ·have h2:¬((pre.length:Int)<(l.length:Int)):=by omega
   simp[h,flat]
 | x::m,pre,b,n,hl,hb,hn,hn2=>by
  obtain⟨h1,h2,h3⟩:=aTa (d:=((0:Int),((0:Int),((0:Int),())))) hl
  have hl':l.take 60=(pre++[x])++m:=by rw[hl];simp
  have hw:IntKind.i64.wrap ((pre.length:Int)+1)=(((pre++[x]).length:Nat):Int):=by rw[w64 (by omega) (by omega)];simp
  have hwn:IntKind.i64.wrap (n+1)=n+1:=w64 (by omega) (by omega)
  rw[aF,aE,aEf]
  simp only[aR,h3,hw,hwn,aI (show (pre.length:Int)<(l.length:Int) by omega),aI (show (pre.length:Int)<60 by omega),aI (show (0:Int)≤(pre.length:Int) by omega),aH,aA]
  cases hg:fJ x
  ·have ih:=yI l m (pre++[x]) b n hl' (by simp;omega) hn (by simp;omega)
   simp only[aB]
   rw[ih,aRd hg,List.filter_cons_of_neg (by simp[hg])]
  ·obtain⟨g1,g2,g3,-⟩:=aEo hg
   have hlen:=aQO hg
   simp only[aA]
   rw[aQo (by omega) (by omega) (by omega) (by omega)]
   have ih:=yI l m (pre++[x]) (b++rH x) (n+1) hl' (by simp;omega) (by omega) (by simp;omega)
   simp only[aK]
   rw[ih,aRc hg,List.filter_cons_of_pos hg]
   simp only[cK,aF]
   congr 4
   omega
end Go.Pli
