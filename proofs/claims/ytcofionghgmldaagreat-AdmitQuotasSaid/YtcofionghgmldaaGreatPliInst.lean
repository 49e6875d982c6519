/- Instructions: what the functions come to. -/
import Derived.Test.YtcofionghgmldaaGreatPliBits
import Derived.Laws.Strings
namespace Go.Pli
open Go Go.PM
theorem aSg (o:Int):aQh o=some (cR o,()):=by
  unfold aQh cR
  simp only[List.contains_cons,List.contains_nil]
  by_cases h1:o=1
  · subst h1;rfl
  by_cases h3:o=3
  · subst h3;rfl
  by_cases h4:o=4
  · subst h4;rfl
  by_cases h18:o=18
  · subst h18;rfl
  by_cases h19:o=19
  · subst h19;rfl
  by_cases h22:o=22
  · subst h22;rfl
  by_cases h23:o=23
  · subst h23;rfl
  by_cases h29:o=29
  · subst h29;rfl
  by_cases h30:o=30
  · subst h30;rfl
  by_cases h31:o=31
  · subst h31;rfl
  have e:∀k:Int,o≠k→(o==k)=false:=fun k h=>by simpa using h
  simp only[e 1 h1,e 3 h3,e 4 h4,e 18 h18,e 19 h19,e 22 h22,e 23 h23,e 29 h29,e 30 h30,e 31 h31,cond_false,Bool.false_or,Bool.or_false,Option.bind_some]
  cases o==34 <;> cases o==27 <;> cases o==28 <;> cases o==32 <;> cases decide (o<1) <;> cases decide (o>34) <;> rfl
theorem aO2 (n c a:Int):aMi n c a=some (kV n c a,()):=by
  unfold aMi kV
  cases decide (a≥c) <;> cases decide (n≥0) <;> rfl
theorem aR8 (i:Ins):aPb i=some (dQ i,()):=by
  unfold aPb dQ
  cases decide (cR i.1≥0) <;> cases kV i.2.1 (cR i.1) 0 <;> rfl
theorem aDH (o:Int):cR o= -1∨cR o=0∨cR o=1∨cR o=2:=by
  unfold cR
  cases ([1,3,4,18,19,22,23,29,30,31,34]:List Int).contains o <;> cases (o==27 || (o==28 || o==32)) <;> cases (decide (o<1) || decide (o>34)) <;> simp
theorem aRR (o:Int):aPw o=some (wI o,()):=by
  unfold aPw wI
  have hr:rin ([1,3,4,18,19,22,23,29,30,31,34]:List Int) o=some (([1,3,4,18,19,22,23,29,30,31,34]:List Int).contains o,()):=rfl
  rw[hr]
  by_cases h1:o<1
  · have hc:([1,3,4,18,19,22,23,29,30,31,34]:List Int).contains o=false:=by
      simp;omega
    have h2:(o==27 || (o==28 || o==32))=false:=by simp;omega
    unfold cR
    rw[hc,h2,decide_eq_true h1];rfl
  by_cases h34:o>34
  · have hc:([1,3,4,18,19,22,23,29,30,31,34]:List Int).contains o=false:=by
      simp;omega
    have h2:(o==27 || (o==28 || o==32))=false:=by simp;omega
    unfold cR
    rw[hc,h2,decide_eq_false h1,decide_eq_true h34];rfl
  unfold cR
  rw[decide_eq_false h1,decide_eq_false h34]
  simp only[Option.bind_some]
  cases ([1,3,4,18,19,22,23,29,30,31,34]:List Int).contains o <;> cases o==27 <;> cases o==28 <;> cases o==32 <;> rfl
theorem aOw (i:Ins):aMa i=some (aCf i,()):=by
  unfold aMa aCf dQ wI kV
  generalize i.2.1=a
  generalize i.2.2.1=b
  rcases aDH i.1 with h | h | h | h <;> rw[h] <;> by_cases ha:a=0 <;> by_cases hb:b=0 <;>
    first
      | (subst ha;subst hb;rfl)
      | (subst ha;have hb':(b==0)=false:=by simpa using hb
         have hb2:(b !=0)=true:=by simpa using hb
         simp only[hb',hb2];cases decide (b≥0) <;> cases decide (b≤255) <;> rfl)
      | (subst hb;have ha':(a==0)=false:=by simpa using ha
         have ha2:(a !=0)=true:=by simpa using ha
         simp only[ha',ha2];cases decide (a≥0) <;> cases decide (a≤255) <;> rfl)
      | (have ha':(a==0)=false:=by simpa using ha
         have ha2:(a !=0)=true:=by simpa using ha
         have hb':(b==0)=false:=by simpa using hb
         have hb2:(b !=0)=true:=by simpa using hb
         simp only[ha',ha2,hb',hb2];cases decide (a≥0) <;> cases decide (a≤255) <;> cases decide (b≥0) <;> cases decide (b≤255) <;> rfl)
end Go.Pli

namespace Go.Pli
open Go Go.PM
theorem aE1 {j v:Nat} (h:v<128):kN j v=[(v:Int)]:=by
 cases j with
 | zero=>rfl
 | succ j=>simp[kN,h]
theorem aHu:∀(j v:Nat),v<128 ^ (j+1)→kN (j+1) v=kN j v
 | 0,v,h=>by
  have h0:v<128:=by simpa using h
  simp[kN,h0]
 | j+1,v,h=>by
  have ih:=aHu j (v/128) (by rw[Nat.div_lt_iff_lt_mul (by omega)];rw[Nat.pow_succ] at h;exact h)
  rw[kN]
  conv=>rhs;rw[kN]
  rw[ih]
theorem aMN {j m v:Nat} (h:v<128 ^ (j+1)) (hm:j≤m):kN m v=kN j v:=by
 induction m with
 | zero=>have:j=0:=by omega
         subst this;rfl
 | succ m ih=>
  rcases Nat.lt_or_ge j (m+1) with hj | hj
  ·have hp:(128:Nat) ^ (j+1)≤128 ^ (m+1):=Nat.pow_le_pow_right (by omega) (by omega)
   rw[aHu m v (by omega),ih (by omega)]
  ·have:j=m+1:=by omega
   subst this;rfl
theorem aJw:∀(k i x:Nat) (l:List Int) (y n:Nat),fK (l.take k)=true→sK k i x l=some (y,n,true)→
  ∃v m,y=x+128 ^ i*v∧n=i+m∧1≤m∧m≤l.length∧l.take m=kN (k - 1) v∧v<128 ^ k∧(i=0∨0<v)
 | 0,_,_,_,_,_,_,h=>by simp[sK] at h
 | k+1,_,_,[],_,_,_,h=>by simp[sK] at h
 | k+1,i,x,c::l,y,n,hb,h=>by
  have hb':(decide (0≤c)&&decide (c<256))=true∧fK (l.take k)=true:=by
   have:fK ((c::l).take (k+1))=true:=hb
   simpa only[List.take_succ_cons,fK,List.all_cons,Bool.and_eq_true] using this
  have hc:0≤c∧c<256:=by simpa using hb'.1
  simp only[sK] at h
  split at h
  ·rename_i hlt
   simp only[Option.some.injEq,Prod.mk.injEq,Bool.or_eq_true,beq_iff_eq,decide_eq_true_eq] at h
   obtain⟨h1,h2,h3⟩:=h
   have hm:c.toNat % 128=c.toNat:=by omega
   refine⟨c.toNat,1,by rw[←h1,hm],h2.symm,by omega,by simp,?_,?_,by omega⟩
   ·rw[aE1 (by omega)]
    simp;omega
   ·have:(128:Nat) ^ 1≤128 ^ (k+1):=Nat.pow_le_pow_right (by omega) (by omega)
    omega
  ·rename_i hlt
   obtain⟨v,m,e1,e2,e3,e4,e5,e6,e7⟩:=aJw k (i+1) _ l y n hb'.2 h
   have hv:0<v:=by omega
   have hk1:1≤k:=by
    rcases Nat.eq_zero_or_pos k with h | h
    ·subst h;simp at e6;omega
    ·exact h
   refine⟨c.toNat % 128+128*v,m+1,?_,by omega,by omega,by simp;omega,?_,?_,.inr (by omega)⟩
   ·rw[e1,Nat.pow_succ,Nat.mul_add,Nat.add_assoc,Nat.mul_assoc]
   ·obtain⟨k',rfl⟩:∃k',k=k'+1:=⟨k - 1,by omega⟩
    have hnl:¬(c.toNat % 128+128*v<128):=by omega
    simp only[Nat.add_sub_cancel] at e5⊢
    rw[List.take_succ_cons,e5,kN,if_neg hnl]
    have a1:(c.toNat % 128+128*v) % 128=c.toNat % 128:=by omega
    have a2:(c.toNat % 128+128*v)/128=v:=by omega
    rw[a1,a2]
    congr 1
    omega
   ·rw[Nat.pow_succ]
    have:=Nat.mul_le_mul_right 128 (show v+1≤128 ^ k from e6)
    omega
theorem aLj {l:List Int} (n:Nat) (h:fK l=true):fK (l.take n)=true:=by
 simp only[fK,List.all_eq_true] at h⊢
 exact fun x hx=>h x (List.mem_of_mem_take hx)
end Go.Pli

namespace Go.Pli
open Go Go.PM
def aBV (i:Ins):List Int:=enc i.1.toNat++(bif decide (cR i.1<1) then[] else enc i.2.1.toNat++(bif decide (cR i.1<2) then[] else enc i.2.2.1.toNat))
theorem aUk {b:List Int} {i:Ins} (hb:b.length<900000) (h1:i.1<9223372036854775808) (h2:i.2.1<9223372036854775808) (h3:i.2.2.1<9223372036854775808):aRq b i=some (b++aBV i,()):=by
 unfold aRq aBV
 have l1:=aFK i.1.toNat
 have l2:=aFK i.2.1.toNat
 rw[aI4 (by omega) h1]
 simp only[Option.bind_some]
 cases decide (cR i.1<1)
 ·simp only[cond_false]
  rw[aI4 (by simp;omega) h2]
  simp only[Option.bind_some]
  cases decide (cR i.1<2)
  ·simp only[cond_false]
   rw[aI4 (by simp;omega) h3]
   simp
  ·simp
 ·simp
theorem aAx {i:Ins} (h:dQ i=true):(1≤i.1∧i.1≤34)∧(0≤i.2.1∧i.2.1≤255)∧(0≤i.2.2.1∧i.2.2.1≤255)∧(cR i.1<1→i.2.1=0)∧(cR i.1<2→i.2.2.1=0):=by
 unfold dQ kV at h
 have hr:cR i.1≥0→1≤i.1∧i.1≤34:=by
  intro h0
  unfold cR at h0
  by_cases h1:i.1<1
  ·have hc:([1,3,4,18,19,22,23,29,30,31,34]:List Int).contains i.1=false:=by simp;omega
   have h2:(i.1==27 || (i.1==28 || i.1==32))=false:=by simp;omega
   rw[hc,h2,decide_eq_true h1,Bool.true_or] at h0
   exact absurd h0 (by decide)
  by_cases h34:i.1>34
  ·have hc:([1,3,4,18,19,22,23,29,30,31,34]:List Int).contains i.1=false:=by simp;omega
   have h2:(i.1==27 || (i.1==28 || i.1==32))=false:=by simp;omega
   rw[hc,h2,decide_eq_true h34,Bool.or_true] at h0
   exact absurd h0 (by decide)
  omega
 rcases aDH i.1 with ha | ha | ha | ha <;> rw[ha] at h hr⊢ <;> simp at h hr⊢ <;> omega
end Go.Pli

namespace Go.Pli
open Go Go.PM
end Go.Pli

namespace Go.Pli
open Go Go.PM
def flat (l:List Ins):List Int:=(l.filter dQ).flatMap aBV
theorem aGE {i:Ins} {l:List Ins} (h:dQ i=true):flat (i::l)=aBV i++flat l:=by simp[flat,h]
theorem aHN {i:Ins} {l:List Ins} (h:dQ i=false):flat (i::l)=flat l:=by simp[flat,h]
theorem aTe {v:Nat} (h:v<128):(enc v).length=1:=by unfold enc;rw[aE1 h];rfl
theorem aMl {v:Nat} (h:v<16384):1≤(enc v).length∧(enc v).length≤2:=by
 have:enc v=kN 1 v:=aMN (by omega) (by omega)
 rw[this,kN]
 split <;> simp[kN]
theorem aQZ {i:Ins} (h:dQ i=true):1≤(aBV i).length∧(aBV i).length≤5:=by
 obtain⟨o,a,b,-⟩:=aAx h
 have l1:=aTe (v:=i.1.toNat) (by omega)
 have l2:=aMl (v:=i.2.1.toNat) (by omega)
 have l3:=aMl (v:=i.2.2.1.toNat) (by omega)
 unfold aBV
 cases decide (cR i.1<1) <;> cases decide (cR i.1<2) <;> simp <;> omega
theorem aU3 {α:Type} {l pre m:List α} {x d:α} (hl:l.take 60=pre++x::m):pre.length<l.length∧pre.length<60∧l.getD pre.length d=x:=by
 have h1:(l.take 60)[pre.length]? =some x:=by rw[hl];simp
 rw[List.getElem?_take] at h1
 split at h1
 ·rename_i hlt
  refine⟨(List.getElem?_eq_some_iff.1 h1).1,hlt,?_⟩
  rw[List.getD,h1];rfl
 ·cases h1
theorem aUR {α:Type} {l pre:List α} (hl:l.take 60=pre):¬(pre.length<l.length∧pre.length<60):=by
 rw[←hl,List.length_take]
 omega
theorem zA (l:List Ins):∀(m pre:List Ins) (b:List Int) (n:Int),l.take 60=pre++m→b.length≤100*pre.length→0≤n→n≤pre.length→
  aA (aBp l) (m.length+1) (b,n,(pre.length:Int),())=some (.inl (b++flat m,n+((m.filter dQ).length:Int),()))
 | [],pre,b,n,hl,hb,hn,hn2=>by
  rw[List.append_nil] at hl
  have he:=aUR hl
  rw[List.length_nil,aA,aBp]
  by_cases h:pre.length<l.length
  ·have h2:¬((pre.length:Int)<60):=by omega
   simp[h,h2,flat]
  ·have h2:¬((pre.length:Int)<(l.length:Int)):=by omega
   simp[h,flat]
 | x::m,pre,b,n,hl,hb,hn,hn2=>by
  obtain⟨h1,h2,h3⟩:=aU3 (d:=((0:Int),((0:Int),((0:Int),())))) hl
  have hl':l.take 60=(pre++[x])++m:=by rw[hl];simp
  have hw:IntKind.i64.wrap ((pre.length:Int)+1)=(((pre++[x]).length:Nat):Int):=by rw[w64 (by omega) (by omega)];simp
  have hwn:IntKind.i64.wrap (n+1)=n+1:=w64 (by omega) (by omega)
  rw[List.length_cons,aA,aBp]
  simp only[Int.toNat_natCast,h3,hw,hwn,decide_eq_true (show (pre.length:Int)<(l.length:Int) by omega),decide_eq_true (show (pre.length:Int)<60 by omega),decide_eq_true (show (0:Int)≤(pre.length:Int) by omega),Bool.and_self,cond_true]
  cases hg:dQ x
  ·have ih:=zA l m (pre++[x]) b n hl' (by simp;omega) hn (by simp;omega)
   simp only[cond_false]
   rw[ih,aHN hg,List.filter_cons_of_neg (by simp[hg])]
  ·obtain⟨g1,g2,g3,-⟩:=aAx hg
   have hlen:=aQZ hg
   simp only[cond_true]
   rw[aUk (by omega) (by omega) (by omega) (by omega)]
   have ih:=zA l m (pre++[x]) (b++aBV x) (n+1) hl' (by simp;omega) (by omega) (by simp;omega)
   simp only[Option.bind_some]
   rw[ih,aGE hg,List.filter_cons_of_pos hg]
   simp only[List.append_assoc,List.length_cons]
   congr 4
   omega
end Go.Pli
