/- Instructions: what the functions come to. -/
import Derived.Test.YtcofionghgmldaaGreatPliBits
import Derived.Laws.Strings
namespace Go.Pli
open Go Go.PM
theorem aW1 (o:Int):aMR o=some (bD o,()):=by
  unfold aMR bD;simp only[List.contains_cons,List.contains_nil];by_cases h1:o=1
  · subst h1;rfl
  by_cases h3:o=3
  · subst h3;rfl
  by_cases h4:o=4
  · subst h4;rfl
  by_cases h18:o=18
  · subst h18;rfl
  by_cases h19:o=19
  · subst h19;rfl
  by_cases h22:o=22
  · subst h22;rfl
  by_cases h23:o=23
  · subst h23;rfl
  by_cases h29:o=29
  · subst h29;rfl
  by_cases h30:o=30
  · subst h30;rfl
  by_cases h31:o=31
  · subst h31;rfl
  have e:∀k:Int,o≠k→(o==k)=false:=fun k h=>by simpa using h
  simp only[e 1 h1,e 3 h3,e 4 h4,e 18 h18,e 19 h19,e 22 h22,e 23 h23,e 29 h29,e 30 h30,e 31 h31,aB,iR,rF,aF];cases o==34 <;> cases o==27 <;> cases o==28 <;> cases o==32 <;> cases decide (o<1) <;> cases decide (o>34) <;> rfl
theorem aPz (n c a:Int):aIt n c a=some (lA n c a,()):=by
  unfold aIt lA;cases decide (a≥c) <;> cases decide (n≥0) <;> rfl
theorem aWG (i:Ins):aMK i=some (dV i,()):=by
  unfold aMK dV;cases decide (bD i.1≥0) <;> cases lA i.2.1 (bD i.1) 0 <;> rfl
theorem aMP (o:Int):bD o= -1∨bD o=0∨bD o=1∨bD o=2:=by
  unfold bD;cases ([1,3,4,18,19,22,23,29,30,31,34]:List Int).contains o <;> cases (o==27 || (o==28 || o==32)) <;> cases (decide (o<1) || decide (o>34)) <;> simp
theorem aSF (o:Int):aKm o=some (mF o,()):=by
  unfold aKm mF;have hr:rin ([1,3,4,18,19,22,23,29,30,31,34]:List Int) o=some (([1,3,4,18,19,22,23,29,30,31,34]:List Int).contains o,()):=rfl;rw[hr];by_cases h1:o<1
  · have hc:([1,3,4,18,19,22,23,29,30,31,34]:List Int).contains o=false:=by
      simp;omega
    have h2:(o==27 || (o==28 || o==32))=false:=by simp;omega
    unfold bD;rw[hc,h2,aH h1];rfl
  by_cases h34:o>34
  · have hc:([1,3,4,18,19,22,23,29,30,31,34]:List Int).contains o=false:=by
      simp;omega
    have h2:(o==27 || (o==28 || o==32))=false:=by simp;omega
    unfold bD;rw[hc,h2,aT h1,aH h34];rfl
  unfold bD;rw[aT h1,aT h34];simp only[aF];cases ([1,3,4,18,19,22,23,29,30,31,34]:List Int).contains o <;> cases o==27 <;> cases o==28 <;> cases o==32 <;> rfl
theorem aSs (i:Ins):aKb i=some (aBb i,()):=by
  unfold aKb aBb dV mF lA;generalize i.2.1=a;generalize i.2.2.1=b;rcases aMP i.1 with h | h | h | h <;> rw[h] <;> by_cases ha:a=0 <;> by_cases hb:b=0 <;>
    first
      | (subst ha;subst hb;rfl)
      | (subst ha;have hb':(b==0)=false:=by simpa using hb
         have hb2:(b !=0)=true:=by simpa using hb
         simp only[hb',hb2];cases decide (b≥0) <;> cases decide (b≤255) <;> rfl)
      | (subst hb;have ha':(a==0)=false:=by simpa using ha
         have ha2:(a !=0)=true:=by simpa using ha
         simp only[ha',ha2];cases decide (a≥0) <;> cases decide (a≤255) <;> rfl)
      | (have ha':(a==0)=false:=by simpa using ha
         have ha2:(a !=0)=true:=by simpa using ha
         have hb':(b==0)=false:=by simpa using hb
         have hb2:(b !=0)=true:=by simpa using hb
         simp only[ha',ha2,hb',hb2];cases decide (a≥0) <;> cases decide (a≤255) <;> cases decide (b≥0) <;> cases decide (b≤255) <;> rfl)
end Go.Pli

namespace Go.Pli
open Go Go.PM
theorem aHJ {j v:Nat} (h:v<128):eI j v=[(v:Int)]:=by
 cases j with
 | zero=>rfl
 | succ j=>simp[eI,h]
theorem aNZ:∀(k j i x v:Nat) (rest:List Int),1≤k→v<128 ^ (j+1)→v<128 ^ k→(i=0∨0<v)→
  kD k i x (eI j v++rest)=some (x+128 ^ i*v,i+(eI j v).length,true)
 | 0,_,_,_,_,_,hk,_,_,_=>by omega
 | k+1,j,i,x,v,rest,_,hj,hk,hi=>by
  by_cases hv:v<128
  ·rw[aHJ hv];have h1:(v:Int)<128:=by omega
   have h2:((v:Int)).toNat % 128=v:=by omega
   have h3:(i==0 || decide ((0:Int)<(v:Int)))=true:=by
    rcases hi with hi | hi
    ·subst hi;rfl
    ·have:decide ((0:Int)<(v:Int))=true:=aH (by omega);rw[this];simp
   simp only[lV,oC,kD,if_pos h1,h2,h3,aJ,bJ]
  ·cases j with
   | zero=>simp at hj;omega
   | succ j=>
    have hk1:1≤k:=by
     rcases Nat.eq_zero_or_pos k with h | h
     ·subst h;simp at hk;omega
     ·exact h
    have ih:=aNZ k j (i+1) (x+128 ^ i*(v % 128)) (v/128) rest hk1
     (by rw[aEZ (by omega)];rw[vA] at hj;exact hj) (by rw[aEZ (by omega)];rw[vA] at hk;exact hk) (.inr (Nat.div_pos (by omega) (by omega)))
    have h1:¬(((128+v % 128:Nat):Int)<128):=by omega
    have h2:(((128+v % 128:Nat):Int)).toNat % 128=v % 128:=by omega
    simp only[eI,if_neg hv,lV,kD,if_neg h1,h2];rw[ih];have e1:x+128 ^ i*(v % 128)+128 ^ (i+1)*(v/128)=x+128 ^ i*v:=by
     rw[vA,Nat.mul_assoc,cA,←Nat.mul_add,Nat.mod_add_div]
    rw[e1,aJ];have e2:i+1+(eI j (v/128)).length=i+((eI j (v/128)).length+1):=by omega
    rw[e2]
theorem aHK:∀(j v:Nat),v<128 ^ (j+1)→bC (eI j v)=true
 | 0,v,h=>by
  have h0:v<128:=by simpa using h
  simp[eI,bC];omega
 | j+1,v,h=>by
  simp only[eI];split
  ·simp[bC];omega
  ·have ih:=aHK j (v/128) (by rw[aEZ (by omega)];rw[vA] at h;exact h);simp only[bC,fA,aC,aO] at ih⊢;exact⟨⟨by omega,by omega⟩,ih⟩
theorem aNQ:∀(j v:Nat),v<128 ^ (j+1)→eI (j+1) v=eI j v
 | 0,v,h=>by
  have h0:v<128:=by simpa using h
  simp[eI,h0]
 | j+1,v,h=>by
  have ih:=aNQ j (v/128) (by rw[aEZ (by omega)];rw[vA] at h;exact h);rw[eI]
  conv=>rhs;rw[eI]
  rw[ih]
theorem aEp {j m v:Nat} (h:v<128 ^ (j+1)) (hm:j≤m):eI m v=eI j v:=by
 induction m with
 | zero=>have:j=0:=by omega
         subst this;rfl
 | succ m ih=>
  rcases fQ j (m+1) with hj | hj
  ·have hp:(128:Nat) ^ (j+1)≤128 ^ (m+1):=Nat.pow_le_pow_right (by omega) (by omega);rw[aNQ m v (by omega),ih (by omega)]
  ·have:j=m+1:=by omega
   subst this;rfl
theorem aHS:∀(k i x:Nat) (l:List Int) (y n:Nat),bC (l.take k)=true→kD k i x l=some (y,n,true)→
  ∃v m,y=x+128 ^ i*v∧n=i+m∧1≤m∧m≤l.length∧l.take m=eI (k - 1) v∧v<128 ^ k∧(i=0∨0<v)
 | 0,_,_,_,_,_,_,h=>by simp[kD] at h
 | k+1,_,_,[],_,_,_,h=>by simp[kD] at h
 | k+1,i,x,c::l,y,n,hb,h=>by
  have hb':(decide (0≤c)&&decide (c<256))=true∧bC (l.take k)=true:=by
   have:bC ((c::l).take (k+1))=true:=hb;simpa only[List.take_succ_cons,bC,fA,aC] using this
  have hc:0≤c∧c<256:=by simpa using hb'.1
  simp only[kD] at h;split at h
  ·rename_i hlt;simp only[cV,qZ,fS,hC,aO] at h;obtain⟨h1,h2,h3⟩:=h;have hm:c.toNat % 128=c.toNat:=by omega
   refine⟨c.toNat,1,by rw[←h1,hm],h2.symm,by omega,by simp,?_,?_,by omega⟩
   ·rw[aHJ (by omega)];simp;omega
   ·have:(128:Nat) ^ 1≤128 ^ (k+1):=Nat.pow_le_pow_right (by omega) (by omega);omega
  ·rename_i hlt;obtain⟨v,m,e1,e2,e3,e4,e5,e6,e7⟩:=aHS k (i+1) _ l y n hb'.2 h;have hv:0<v:=by omega
   have hk1:1≤k:=by
    rcases Nat.eq_zero_or_pos k with h | h
    ·subst h;simp at e6;omega
    ·exact h
   refine⟨c.toNat % 128+128*v,m+1,?_,by omega,by omega,by simp;omega,?_,?_,.inr (by omega)⟩
   ·rw[e1,vA,Nat.mul_add,cA,Nat.mul_assoc]
   ·obtain⟨k',rfl⟩:∃k',k=k'+1:=⟨k - 1,by omega⟩;have hnl:¬(c.toNat % 128+128*v<128):=by omega
    simp only[Nat.add_sub_cancel] at e5⊢;rw[List.take_succ_cons,e5,eI,if_neg hnl];have a1:(c.toNat % 128+128*v) % 128=c.toNat % 128:=by omega
    have a2:(c.toNat % 128+128*v)/128=v:=by omega
    rw[a1,a2];congr 1;omega
   ·rw[vA];have:=iP 128 (show v+1≤128 ^ k from e6);omega
theorem gN {a b:List Int}:bC (a++b)=(bC a&&bC b):=by simp[bC]
theorem aEJ {l:List Int} (n:Nat) (h:bC l=true):bC (l.take n)=true:=by
 simp only[bC,bT] at h⊢;exact fun x hx=>h x (aPs hx)
theorem aEK {l:List Int} (n:Nat) (h:bC l=true):bC (l.drop n)=true:=by
 simp only[bC,bT] at h⊢;exact fun x hx=>h x (List.mem_of_mem_drop hx)
theorem aUA {v:Nat} {rest:List Int} {bad:Bool} (hv:v<128 ^ 5) (hb:bC rest=true):next (enc v++rest,bad,())=some ((v:Int),true,(rest,bad,()),()):=by
 have he:enc v=eI 4 v:=aEp hv (by omega);have hbs:bC ((enc v++rest).take 5)=true:=aEJ 5 (by rw[gN,hb,he,aHK 4 v hv];rfl);unfold next
 simp only[hbs,aA];rw[he,aNZ 5 4 0 0 v rest (by omega) hv hv (.inl rfl)];simp
theorem uI {v:Nat} {rest:List Int} {n:Int} (hv:v<128 ^ 5) (hb:bC rest=true) (hn:(v:Int)≤n) (hn2:n<9223372036854775808):bS (enc v++rest,false,()) n=some ((v:Int),(rest,false,()),()):=by
 unfold bS;rw[aUA hv hb];have h0:¬n<0:=by omega
 have hw:IntKind.u64.wrap n=n:=by rw[IntKind.wrap_u64];omega
 have h1:¬((v:Int)>n):=by omega
 have hw2:IntKind.i64.wrap (v:Int)=v:=w64 (by omega) (by omega);simp only[aB,aF,aV,aT h0,hw,aT h1,hw2]
theorem wX {v:Nat} (h:v<128 ^ 11):bC (enc v)=true:=aHK 10 v h
end Go.Pli

namespace Go.Pli
open Go Go.PM
def gW (i:Ins):List Int:=enc i.1.toNat++(bif decide (bD i.1<1) then[] else enc i.2.1.toNat++(bif decide (bD i.1<2) then[] else enc i.2.2.1.toNat))
theorem aVQ {b:List Int} {i:Ins} (hb:b.length<900000) (h1:i.1<9223372036854775808) (h2:i.2.1<9223372036854775808) (h3:i.2.2.1<9223372036854775808):aG5 b i=some (b++gW i,()):=by
 unfold aG5 gW;have l1:=iV i.1.toNat;have l2:=iV i.2.1.toNat;rw[aF7 (by omega) h1];simp only[aF];cases decide (bD i.1<1)
 ·simp only[aB];rw[aF7 (by simp;omega) h2];simp only[aF];cases decide (bD i.1<2)
  ·simp only[aB];rw[aF7 (by simp;omega) h3];simp
  ·simp
 ·simp
theorem aWS (i:Ins):1≤(gW i).length∧(gW i).length≤33:=by
 unfold gW;have l1:=iV i.1.toNat;have l2:=iV i.2.1.toNat;have l3:=iV i.2.2.1.toNat;have p1:1≤(enc i.1.toNat).length:=by
  unfold enc;rw[eI];split <;> simp
 cases decide (bD i.1<1) <;> cases decide (bD i.1<2) <;> simp <;> omega
theorem aAj {i:Ins} (h:dV i=true):(1≤i.1∧i.1≤34)∧(0≤i.2.1∧i.2.1≤255)∧(0≤i.2.2.1∧i.2.2.1≤255)∧(bD i.1<1→i.2.1=0)∧(bD i.1<2→i.2.2.1=0):=by
 unfold dV lA at h;have hr:bD i.1≥0→1≤i.1∧i.1≤34:=by
  intro h0;unfold bD at h0;by_cases h1:i.1<1
  ·have hc:([1,3,4,18,19,22,23,29,30,31,34]:List Int).contains i.1=false:=by simp;omega
   have h2:(i.1==27 || (i.1==28 || i.1==32))=false:=by simp;omega
   rw[hc,h2,aH h1,vD] at h0;exact absurd h0 (by decide)
  by_cases h34:i.1>34
  ·have hc:([1,3,4,18,19,22,23,29,30,31,34]:List Int).contains i.1=false:=by simp;omega
   have h2:(i.1==27 || (i.1==28 || i.1==32))=false:=by simp;omega
   rw[hc,h2,aH h34,Bool.or_true] at h0;exact absurd h0 (by decide)
  omega
 rcases aMP i.1 with ha | ha | ha | ha <;> rw[ha] at h hr⊢ <;> simp at h hr⊢ <;> omega
theorem aXl {i:Ins} {rest:List Int} (hg:dV i=true) (hb:bC rest=true):mN (gW i++rest,false,())=some (i,(rest,false,()),()):=by
 obtain⟨⟨o1,o2⟩,⟨a1,a2⟩,⟨b1,b2⟩,z1,z2⟩:=aAj hg;obtain⟨o,a,b,u⟩:=i;simp only at o1 o2 a1 a2 b1 b2 z1 z2;have ho:((o.toNat:Nat):Int)=o:=by omega
 have haa:((a.toNat:Nat):Int)=a:=by omega
 have hbb:((b.toNat:Nat):Int)=b:=by omega
 have eb:bC (enc b.toNat)=true:=wX (by omega);have ea:bC (enc a.toNat)=true:=wX (by omega);unfold mN gW;simp only[bG];by_cases h1:bD o<1
 ·have e1:=z1 h1;have e2:=z2 (by omega);subst e1;subst e2;rw[aH h1];simp only[aA,oC];rw[uI (v:=o.toNat) (by omega) hb (by omega) (by omega),ho];have h2:¬bD o>0:=by omega
  have h3:¬bD o>1:=by omega
  simp only[aF,aT h2,aT h3,aB]
 ·rw[aT h1];simp only[aB,bG];have h2:bD o>0:=by omega
  by_cases h3:bD o<2
  ·have e2:=z2 h3;subst e2;rw[aH h3];simp only[aA,oC];rw[uI (v:=o.toNat) (by omega) (by rw[gN,ea,hb];rfl) (by omega) (by omega),ho];have h4:¬bD o>1:=by omega
   simp only[aF,aH h2,aA];rw[uI (v:=a.toNat) (by omega) hb (by omega) (by omega),haa];simp only[aF,aT h4,aB]
  ·rw[aT h3];simp only[aB];rw[uI (v:=o.toNat) (by omega) (by rw[gN,ea,gN,eb,hb];rfl) (by omega) (by omega),ho];have h4:bD o>1:=by omega
   simp only[aF,aH h2,aA];rw[uI (v:=a.toNat) (by omega) (by rw[gN,eb,hb];rfl) (by omega) (by omega),haa];simp only[aF,aH h4,aA];rw[uI (v:=b.toNat) (by omega) hb (by omega) (by omega),hbb];rfl
end Go.Pli

namespace Go.Pli
open Go Go.PM
theorem aEb (l:List Int) (n:Int):bS (l,true,()) n=some (0,(l,true,()),()):=rfl
theorem aBP {l:List Int} {n:Int} (hb:bC l=true) (h0:0≤n) (h1:n<9223372036854775808):∃(v:Int) (l':List Int) (bad:Bool),bS (l,false,()) n=some (v,(l',bad,()),())∧bC l'=true∧
  (bad=true∨(bad=false∧0≤v∧v≤n∧v.toNat<128 ^ 5∧l=enc v.toNat++l')):=by
 have hbs:bC (l.take 5)=true:=aEJ 5 hb;unfold bS next
 simp only[hbs,aA,aB];have hw:IntKind.u64.wrap n=n:=by rw[IntKind.wrap_u64];omega
 have hn0:decide (n<0)=false:=aT (by omega);cases hd:kD 5 0 0 l with
 | none=>exact⟨0,l,true,rfl,hb,.inl rfl⟩
 | some x=>
  obtain⟨y,m,ok⟩:=x;cases ok with
  | false=>exact⟨0,l.drop m,true,rfl,aEK m hb,.inl rfl⟩
  | true=>
   obtain⟨v,m',e1,e2,e3,e4,e5,e6,e7⟩:=aHS 5 0 0 l y m hbs hd;have hy:y=v:=by omega
   have hm:m=m':=by omega
   subst hy;subst hm;simp only[aF,aV,aB,hn0,hw];by_cases hgt:(y:Int)>n
   ·rw[aH hgt];exact⟨0,l.drop m,true,rfl,aEK m hb,.inl rfl⟩
   ·rw[aT hgt];have hw2:IntKind.i64.wrap (y:Int)=y:=w64 (by omega) (by omega);refine⟨(y:Int),l.drop m,false,by simp only[aB,hw2],aEK m hb,.inr ⟨rfl,by omega,by omega,by omega,?_⟩⟩;have:enc ((y:Int)).toNat=l.take m:=by
     rw[aL,e5];exact aEp e6 (by omega)
    rw[this,xL]
theorem aWI {l:List Int} (hb:bC l=true):∃(i:Ins) (l':List Int) (bad:Bool),mN (l,false,())=some (i,(l',bad,()),())∧bC l'=true∧(bad=true∨(bad=false∧l=gW i++l'∧(i.1=0∨dV i=true)∧i.1<1000∧i.2.1<1000∧i.2.2.1<1000)):=by
 obtain⟨v,l1,bad,g1,g2,g3⟩:=aBP (l:=l) (n:=34) hb (by omega) (by omega);unfold mN;rw[g1];simp only[aF];rcases g3 with g3 | ⟨g3,v0,v1,v2,v3⟩
 ·subst g3;rw[aEb];simp only[aF];rw[aEb];cases decide (bD v>0) <;> cases decide (bD v>1) <;> exact⟨_,l1,true,rfl,g2,.inl rfl⟩
 ·subst g3;have hwith:∀{x c a:Int},(c≤a→x=0)→0≤x→x≤255→lA x c a=true:=by
   intro x c a h1 h2 h3;unfold lA;by_cases h:a≥c
   ·rw[aH h];simpa using h1 h
   ·rw[aT h,aH (show x≥0 from h2),aH h3];rfl
  have hgood:∀{x y:Int},v≠0→(bD v<1→x=0)→0≤x→x≤255→(bD v<2→y=0)→0≤y→y≤255→dV (v,x,y,())=true:=by
   intro x y hv a1 a2 a3 b1 b2 b3;have hia:bD v≥0:=by
    unfold bD;rw[aT (by omega:¬v<1),aT (by omega:¬v>34)];cases ([1,3,4,18,19,22,23,29,30,31,34]:List Int).contains v <;> cases (v==27 || (v==28 || v==32)) <;> decide
   unfold dV;simp only;rw[aH hia,hwith (fun h=>a1 (by omega)) a2 a3,hwith (fun h=>b1 (by omega)) b2 b3];rfl
  by_cases h1:bD v<1
  ·rw[aT (by omega:¬bD v>0),aT (by omega:¬bD v>1)];refine⟨(v,0,0,()),l1,false,rfl,g2,.inr ⟨rfl,?_,?_,by simp only;omega⟩⟩
   ·unfold gW;simp only[aH h1,aA,bZ];exact v3
   ·by_cases hv:v=0
    ·exact .inl hv
    ·exact .inr (hgood hv (fun _=>rfl) (by omega) (by omega) (fun _=>rfl) (by omega) (by omega))
  ·have hv:v≠0:=fun h=>by subst h;exact h1 (by decide)
   rw[aH (by omega:bD v>0)];obtain⟨x,l2,bad2,a1,a2,a3⟩:=aBP (l:=l1) (n:=255) g2 (by omega) (by omega);rw[a1];simp only[aF,aA];rcases a3 with a3 | ⟨a3,x0,x1,x2,x3⟩
   ·subst a3;rw[aEb];cases decide (bD v>1) <;> exact⟨_,l2,true,rfl,a2,.inl rfl⟩
   ·subst a3;by_cases h2:bD v<2
    ·rw[aT (by omega:¬bD v>1)];refine⟨(v,x,0,()),l2,false,rfl,a2,.inr ⟨rfl,?_,.inr (hgood hv (fun h=>absurd h h1) x0 x1 (fun _=>rfl) (by omega) (by omega)),by simp only;omega⟩⟩;unfold gW;simp only[aT h1,aH h2,aA,aB,bZ,bG];rw[←x3];exact v3
    ·rw[aH (by omega:bD v>1)];obtain⟨y,l3,bad3,b1,b2,b3⟩:=aBP (l:=l2) (n:=255) a2 (by omega) (by omega);rw[b1];rcases b3 with b3 | ⟨b3,y0,y1,y2,y3⟩
     ·subst b3;exact⟨_,l3,true,rfl,b2,.inl rfl⟩
     ·subst b3;refine⟨(v,x,y,()),l3,false,rfl,b2,.inr ⟨rfl,?_,.inr (hgood hv (fun h=>absurd h h1) x0 x1 (fun h=>absurd h h2) y0 y1),by simp only;omega⟩⟩;unfold gW;simp only[aT h1,aT h2,aB,bG];rw[←y3,←x3];exact v3
end Go.Pli

namespace Go.Pli
open Go Go.PM
def flat (l:List Ins):List Int:=(l.filter dV).flatMap gW
theorem aXR {i:Ins} {l:List Ins} (h:dV i=true):flat (i::l)=gW i++flat l:=by simp[flat,h]
theorem aXS {i:Ins} {l:List Ins} (h:dV i=false):flat (i::l)=flat l:=by simp[flat,h]
theorem aYj {v:Nat} (h:v<128):(enc v).length=1:=by unfold enc;rw[aHJ h];rfl
theorem aNM {v:Nat} (h:v<16384):1≤(enc v).length∧(enc v).length≤2:=by
 have:enc v=eI 1 v:=aEp (by omega) (by omega);rw[this,eI];split <;> simp[eI]
theorem aW9 {i:Ins} (h:dV i=true):1≤(gW i).length∧(gW i).length≤5:=by
 obtain⟨o,a,b,-⟩:=aAj h;have l1:=aYj (v:=i.1.toNat) (by omega);have l2:=aNM (v:=i.2.1.toNat) (by omega);have l3:=aNM (v:=i.2.2.1.toNat) (by omega);unfold gW;cases decide (bD i.1<1) <;> cases decide (bD i.1<2) <;> simp <;> omega
theorem aWT {i:Ins} (h:dV i=true):bC (gW i)=true:=by
 obtain⟨o,a,b,-⟩:=aAj h;have e1:bC (enc i.1.toNat)=true:=wX (by omega);have e2:bC (enc i.2.1.toNat)=true:=wX (by omega);have e3:bC (enc i.2.2.1.toNat)=true:=wX (by omega);unfold gW;rw[gN,e1];cases decide (bD i.1<1)
 ·simp only[aB,gN,e2];cases decide (bD i.1<2)
  ·simp only[aB,e3];rfl
  ·rfl
 ·rfl
theorem bAj {α:Type} {l pre m:List α} {x d:α} (hl:l.take 60=pre++x::m):pre.length<l.length∧pre.length<60∧l.getD pre.length d=x:=by
 have h1:(l.take 60)[pre.length]? =some x:=by rw[hl];simp
 rw[fY] at h1;split at h1
 ·rename_i hlt;refine⟨(dI.1 h1).1,hlt,?_⟩;rw[List.getD,h1];rfl
 ·cases h1
theorem bAk {α:Type} {l pre:List α} (hl:l.take 60=pre):¬(pre.length<l.length∧pre.length<60):=by
 rw[←hl,cO];omega
theorem aA9 (l:List Ins):∀(m pre:List Ins) (b:List Int) (n:Int),l.take 60=pre++m→b.length≤100*pre.length→0≤n→n≤pre.length→
  aD (aG9 l) (m.length+1) (b,n,(pre.length:Int),())=some (.inl (b++flat m,n+((m.filter dV).length:Int),()))
 | [],pre,b,n,hl,hb,hn,hn2=>by
  rw[bZ] at hl;have he:=bAk hl;rw[bJ,aD,aG9];by_cases h:pre.length<l.length
  ·have h2:¬((pre.length:Int)<60):=by omega
   simp[h,h2,flat]
  ·have h2:¬((pre.length:Int)<(l.length:Int)):=by omega
   simp[h,flat]
 | x::m,pre,b,n,hl,hb,hn,hn2=>by
  obtain⟨h1,h2,h3⟩:=bAj (d:=((0:Int),((0:Int),((0:Int),())))) hl;have hl':l.take 60=(pre++[x])++m:=by rw[hl];simp
  have hw:IntKind.i64.wrap ((pre.length:Int)+1)=(((pre++[x]).length:Nat):Int):=by rw[w64 (by omega) (by omega)];simp
  have hwn:IntKind.i64.wrap (n+1)=n+1:=w64 (by omega) (by omega);rw[aJ,aD,aG9];simp only[aL,h3,hw,hwn,aH (show (pre.length:Int)<(l.length:Int) by omega),aH (show (pre.length:Int)<60 by omega),aH (show (0:Int)≤(pre.length:Int) by omega),aG,aA];cases hg:dV x
  ·have ih:=aA9 l m (pre++[x]) b n hl' (by simp;omega) hn (by simp;omega);simp only[aB];rw[ih,aXS hg,List.filter_cons_of_neg (by simp[hg])]
  ·obtain⟨g1,g2,g3,-⟩:=aAj hg;have hlen:=aW9 hg;simp only[aA];rw[aVQ (by omega) (by omega) (by omega) (by omega)];have ih:=aA9 l m (pre++[x]) (b++gW x) (n+1) hl' (by simp;omega) (by omega) (by simp;omega);simp only[aF];rw[ih,aXR hg,List.filter_cons_of_pos hg];simp only[bG,aJ];congr 4;omega
end Go.Pli
