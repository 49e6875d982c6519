/- Images: what the functions come to: what fits. -/
import Derived.Test.YtcofionghgmldaaGreatPliSp
import Derived.Test.YtcofionghgmldaaGreatPliInst
namespace Go.Pli
open Go Go.PM
theorem aSr (s:List Cl):aKe s=some (idL s,()):=by simp[aKe,idL]
theorem aSf (s:List Tp):aJ5 s=some (idL s,()):=by simp[aJ5,idL]
theorem aSn (s:List Int):aKc s=some (idL s,()):=by simp[aKc,idL]
theorem aSd (s:List Ins):aJ4 s=some (idL s,()):=by simp[aJ4,idL]
theorem aSl (s:List Int):aJ8 s=some (idL s,()):=by simp[aJ8,idL]
theorem dgt (a b:Int):decide (a>b)= !decide (a≤b):=by
 by_cases h:a≤b
 ·have:¬a>b:=by omega
  simp[h]
 ·have:a>b:=by omega
  simp[this]
theorem aNZ (n a b:Int):aGQ n a b=some (iO n a b,()):=by
 unfold aGQ iO
 have h1:decide (n≥a)=decide (a≤n):=rfl
 rw[h1]
 cases decide (a≤n) <;> rfl
theorem aNL (t:Tp):aGJ t=some (qQ t,()):=by
 unfold aGJ qQ jU iO fS
 cases decide (0≤t.1)&&decide (t.1≤5) <;> cases t.2.1==0 <;> cases t.1==3 <;> rfl
theorem aNW (l:List Int) (c m:Int) (h:aNY l c m):∃k,aGP k l c m=some (pB l c m,()):=by
 refine⟨l.length+1,?_⟩
 have key:aE (aAW l m) (l.length+1) ((0:Int),())=bif l.all (fun n=>fS n m) then some (true,()) else some (false,()):=by
  refine lJ (st:=fun k=>((k:Int),())) (p:=fun n=>fS n m) (fun k x rec hk hlt=>?_) (fun rec=>?_) _ (hZ _)
  ·unfold aAW
   simp only[dlt hlt,dge,aH,aA,aR,getD_some hk,bB hlt h.1.1]
   unfold iO fS
   cases decide (0≤x)&&decide (x≤m) <;> rfl
  ·unfold aAW
   simp only[bH,aB]
 unfold aGP
 rw[key,dgt]
 unfold pB jV
 cases decide ((l.length:Int)≤c) <;> simp
 cases l.all fun n=>fS n m <;> rfl
theorem aNI (l:List Tp) (c:Int) (h:aNK l c):∃k,aGH k l c=some (mI l c,()):=by
 refine⟨l.length+1,?_⟩
 have key:aE (aAU l) (l.length+1) ((0:Int),())=bif l.all jU then some (true,()) else some (false,()):=by
  refine lJ (st:=fun k=>((k:Int),())) (p:=jU) (fun k x rec hk hlt=>?_) (fun rec=>?_) _ (hZ _)
  ·unfold aAU
   simp only[dlt hlt,dge,aH,aA,aR,getD_some hk,bB hlt h.1.1]
   unfold qQ
   cases jU x <;> rfl
  ·unfold aAU
   simp only[bH,aB]
 unfold aGH
 rw[key,dgt]
 unfold mI iF
 cases decide ((l.length:Int)≤c) <;> simp
 cases l.all jU <;> rfl
theorem aN2 (m:Im) (_:aN4 m):∃k,aGS k m=some (sQ m,()):=by
 refine⟨100,?_⟩
 unfold aGS
 rw[dgt,dgt,dgt]
 by_cases h1:(m.1.length:Int)≤8
 ·by_cases h3:(m.2.2.2.1.length:Int)≤12
  ·have key2:aE (aAZ m 100) 100 ((0:Int),())=bif m.2.2.2.1.all lN then some (true,()) else some (false,()):=by
    refine lJ (st:=fun k=>((k:Int),())) (p:=lN) (fun k x rec hk hlt=>?_) (fun rec=>?_) _ (by omega)
    ·unfold aAZ
     simp only[dlt hlt,dge,aH,aA,aR,getD_some hk]
     rw[dgt]
     by_cases hc:(x.2.2.2.1.length:Int)≤64
     ·have inner:aE (aA0 m ((k:Int),()) rec) 100 ((0:Int),())=bif x.2.2.2.1.all fG then rec (((k+1:Nat):Int),()) else some (false,()):=by
       refine lJ (st:=fun k=>((k:Int),())) (p:=fG) (fun j i rec2 hj hlj=>?_) (fun rec2=>?_) _ (by omega)
       ·unfold aA0
        simp only[aR,getD_some hk,dlt hlj,dge,aH,aA,getD_some hj,bB hlj (show x.2.2.2.1.length≤lenMax by simp only[lenMax];omega)]
        unfold yG
        cases fG i <;> rfl
       ·unfold aA0
        simp only[aR,getD_some hk,bH,aB,bB hlt (show m.2.2.2.1.length≤lenMax by simp only[lenMax];omega)]
      rw[inner]
      unfold lN mI qQ iO pB fS
      simp only[hc,aM,eK,bA,aB]
      cases iF x.1 4 <;> cases iF x.2.1 8 <;> cases jU x.2.2.1 <;> cases x.2.2.2.1.all fG <;> cases decide (0≤x.2.2.2.2.1)&&decide (x.2.2.2.2.1≤8) <;>
       cases decide (0≤x.2.2.2.2.2.1)&&decide (x.2.2.2.2.2.1≤4096) <;> cases jV x.2.2.2.2.2.2.1 64 4096 <;> rfl
     ·unfold lN mI qQ
      simp only[hc,bQ,mC,cJ,aA]
      cases iF x.1 4 <;> cases iF x.2.1 8 <;> cases jU x.2.2.1 <;> rfl
    ·unfold aAZ
     simp only[bH,aB]
   have key1:aE (aAY m 100) 100 ((0:Int),())=bif m.1.all pP then (bif m.2.2.2.1.all lN then some (true,()) else some (false,())) else some (false,()):=by
    refine lJ (st:=fun k=>((k:Int),())) (p:=pP) (fun k x rec hk hlt=>?_) (fun rec=>?_) _ (by omega)
    ·unfold aAY
     simp only[dlt hlt,dge,aH,aA,aR,getD_some hk,bB hlt (show m.1.length≤lenMax by simp only[lenMax];omega)]
     have h7:decide (x.1≤7)=decide (x.1<8):=by by_cases h:x.1<8 <;> simp[h] <;> omega
     unfold pP iO mI pB
     rw[h7]
     cases decide (-1≤x.1) <;> cases decide (x.1<8) <;> cases iF x.2.1 8 <;> cases jV x.2.2.1 4 11 <;> rfl
    ·unfold aAY
     simp only[bH,aB]
     exact key2
   rw[key1]
   unfold sQ bW mI pB iO fS
   simp only[h1,h3,aM,bA,aB,eK]
   cases iF m.2.1 8 <;> cases decide ((m.2.2.1.length:Int)≤16) <;> cases m.1.all pP <;> cases m.2.2.2.1.all lN <;> cases jV m.2.2.2.2.1 12 11 <;>
    cases decide (0≤m.2.2.2.2.2.1)&&decide (m.2.2.2.2.2.1≤4096) <;> cases decide (0≤m.2.2.2.2.2.2.1)&&decide (m.2.2.2.2.2.2.1≤4096) <;> rfl
  ·unfold sQ bW
   simp only[h1,h3,aM,bQ,bA,cJ,aA,aB,mC,aAl]
   cases decide ((m.2.2.1.length:Int)≤16) <;> rfl
 ·unfold sQ bW
  simp only[h1,bQ,cJ,aA,mC]
end Go.Pli

namespace Go.Pli
open Go Go.PM
theorem uM (x y:Tp):((x.1==y.1)&&((x.2.1==y.2.1)&&true))=(x==y):=by
 obtain⟨a,b,u⟩:=x;obtain⟨c,d,v⟩:=y;rfl
theorem aEX {α:Type} [BEq α]:∀(a b:List α),a.length=b.length→(a.zip b).all (fun q=>q.1==q.2)=(a==b)
 | [],[],_=>rfl
 | [],_::_,h=>by simp at h
 | _::_,[],h=>by simp at h
 | x::a,y::b,h=>by
  have ih:=aEX a b (by simpa using h)
  simp only[List.zip_cons_cons,fM,ih]
  rfl
theorem aPE {α σ R:Type} [BEq α] {L:σ→(σ→Option R)→Option R} {a b:List α} {st:Nat→σ} {ex fin:Option R} (hl:a.length=b.length)
  (h1:∀(k:Nat) (x y:α) (rec),a[k]? =some x→b[k]? =some y→k<a.length→k<b.length→L (st k) rec=bif x==y then rec (st (k+1)) else ex)
  (h2:∀rec,L (st a.length) rec=fin):∀F:Nat,a.length<F→aE L F (st 0)=bif a==b then fin else ex:=by
 intro F hF
 have hz:(a.zip b).length=a.length:=by rw[List.length_zip];omega
 rw[←aEX a b hl]
 refine lJ (xs:=a.zip b) (p:=fun q=>q.1==q.2) (fun k q rec hk hlt=>?_) (fun rec=>by rw[hz];exact h2 rec) F (by omega)
 have hka:k<a.length:=by omega
 have hkb:k<b.length:=by omega
 rw[aT hlt] at hk
 injection hk with hk
 subst hk
 rw[List.getElem_zip]
 exact h1 k _ _ rec (aT hka) (aT hkb) hka hkb
theorem aKY {α:Type} [BEq α] {a b:List α} (h:a.length≠b.length):(a==b)=false:=by
 induction a generalizing b with
 | nil=>cases b with
  | nil=>simp at h
  | cons=>rfl
 | cons x a ih=>cases b with
  | nil=>rfl
  | cons y b=>
   have:=ih (b:=b) (by simpa using h)
   show (x==y&&a==b)=false
   rw[this];simp
theorem aIm (a b:Nat):((a:Int) !=(b:Int))= !decide (a=b):=by
 by_cases h:a=b
 ·subst h;simp
 ·have:¬((a:Int)=(b:Int)):=by omega
  simp[h,this]
theorem aQ8 (a b:List Tp) (h:aQ9 a b):∃k,aJt k a b=some (eqL a b,()):=by
 refine⟨a.length+1,?_⟩
 unfold aJt
 rw[aIm]
 by_cases hl:a.length=b.length
 ·have key:aE (aBQ a b) (a.length+1) ((0:Int),())=bif a==b then some (true,()) else some (false,()):=by
   refine aPE (st:=fun k=>((k:Int),())) hl (fun k x y rec hx hy hka hkb=>?_) (fun rec=>?_) _ (hZ _)
   ·unfold aBQ
    simp only[dlt hka,dlt hkb,dge,aH,aA,aR,getD_some hx,getD_some hy,bB hka h.1.1,uM]
    cases x==y <;> rfl
   ·unfold aBQ
    simp only[bH,aB]
  rw[key]
  unfold eqL
  simp only[hl,aM,bA,aB]
  cases a==b <;> rfl
 ·unfold eqL
  rw[aKY hl]
  simp[hl]
theorem aMW (a b:List Tp) (h:aMY a b):∃k,aMX k a b=some (uW a b,()):=aQ8 a b h
theorem aNi (t:Tp) (n:Int):aGp t n=some (sN t n,()):=by
 unfold aGp sN gD
 have h:decide (t.2.1≥0)=decide (0≤t.2.1):=rfl
 rw[h]
 by_cases h1:t.1=1
 ·have h3:(t.1==3)=false:=by rw[h1];rfl
  have h1':(t.1==1)=true:=by rw[h1];rfl
  rw[h1',h3]
  cases t.2.1==0 <;> rfl
 ·have h1':(t.1==1)=false:=by simpa using h1
  rw[h1']
  by_cases h2:t.1=2
  ·have h3:(t.1==3)=false:=by rw[h2];rfl
   have h2':(t.1==2)=true:=by rw[h2];rfl
   rw[h2',h3]
   cases t.2.1==0 <;> rfl
  ·have h2':(t.1==2)=false:=by simpa using h2
   rw[h2']
   cases t.1==3 <;> cases decide (0≤t.2.1) <;> rfl
theorem aPV (t:Tp):aIv t=some (iR t,()):=by
 unfold aIv iR
 cases t.1==2 <;> cases t.1==3 <;> rfl
theorem aNa (t:Tp):aGh t=some (sL t,()):=by
 unfold aGh sL iR
 cases t.1==2 <;> cases t.1==3 <;> rfl
theorem aPR (l:List Cl) (c:Int):aIs l c=some (kup l c,()):=by
 unfold aIs kup eF
 by_cases h1:c<0
 ·simp[h1]
 ·by_cases h2:c≥(l.length:Int)
  ·simp[h1,h2]
  ·have h3:0≤c:=by omega
   have h4:c<(l.length:Int):=by omega
   simp only[h1,h2,h3,h4,aM,bQ,aH,aA,aB,mB]
   cases decide ((l.getD c.toNat zCl).1≥c) <;> rfl
theorem lL {l:List Cl} {c:Int} (h:0≤c):kup l c<c:=by
 unfold kup
 by_cases h1:decide (c<0) || (decide (c≥(l.length:Int)) || decide (eF l c≥c))
 ·simp[h1];omega
 ·simp only[Bool.not_eq_true] at h1
  rw[h1]
  simp only[Bool.or_eq_false_iff,rF] at h1
  simp only[aB]
  omega
theorem aAa {l:List Cl} {c:Int} (h:c<0):∀n,rL l n c=[]
 | 0=>rfl
 | n+1=>by simp[rL,h]
theorem aKl {l:List Cl}:∀(n m:Nat) (c:Int),c.toNat<n→c.toNat<m→rL l n c=rL l m c
 | 0,_,_,h,_=>by omega
 | _+1,0,_,_,h=>by omega
 | n+1,m+1,c,h1,h2=>by
  simp only[rL]
  by_cases hc:c<0
  ·simp[hc]
  ·have:=lL (l:=l) (c:=c) (by omega)
   simp only[hc,bQ,aB]
   by_cases hk:kup l c<0
   ·rw[aAa hk,aAa hk]
   ·rw[aKl n m (kup l c) (by omega) (by omega)]
theorem fK {l:List Cl} {c:Int} (h:c<0):cC l c=[]:=aAa h _
theorem hJ {l:List Cl} {c:Int} (h:0≤c):cC l c=c::cC l (kup l c):=by
 have h0:¬c<0:=by omega
 have:=lL (l:=l) h
 unfold cC
 rw[rL]
 simp only[h0,bQ,aB]
 by_cases hk:kup l c<0
 ·rw[aAa hk,aAa hk]
 ·rw[aKl c.toNat ((kup l c).toNat+1) (kup l c) (by omega) (by omega)]
theorem aKH (l:List Cl) (b:Int):∀(n:Nat) (c:Int),c.toNat<n→aE (aBz l b) (n+1) (c,())=some ((cC l c).contains b,())
 | 0,_,h=>by omega
 | n+1,c,h=>by
  rw[aY,aBz]
  by_cases hc:c<0
  ·have h0:¬c≥0:=by omega
   rw[fK hc]
   simp only[h0,bQ,aB]
   rfl
  ·have h0:c≥0:=by omega
   have hlt:=lL (l:=l) (c:=c) (by omega)
   rw[hJ (by omega)]
   simp only[h0,aM,aA,List.contains_cons]
   by_cases hb:c=b
   ·subst hb;simp
   ·have e1:(c==b)=false:=by simpa using hb
    have e2:(b==c)=false:=by simpa using fun h=>hb h.symm
    rw[e1,e2]
    simp only[aB,mB]
    by_cases hk:kup l c<0
    ·rw[fK hk,aY,aBz]
     have:¬kup l c≥0:=by omega
     simp only[this,bQ,aB]
     rfl
    ·exact aKH l b n (kup l c) (by omega)
theorem aPX (l:List Cl) (a b:Int):∃k,aIy k l a b=some (dI l a b,()):=by
 refine⟨a.toNat+1+1,?_⟩
 unfold aIy dI
 rw[aKH l b (a.toNat+1) a (by omega)]
 by_cases h1:b<0
 ·have:¬0≤b:=by omega
  simp[h1,this]
 ·have h1':0≤b:=by omega
  by_cases h2:b≥(l.length:Int)
  ·have:¬b<(l.length:Int):=by omega
   simp[h1,h2,this]
  ·have h2':b<(l.length:Int):=by omega
   by_cases h3:a≥(l.length:Int)
   ·have:¬a<(l.length:Int):=by omega
    simp[h1,h2,h3,this]
   ·have h3':a<(l.length:Int):=by omega
    simp only[h1,h2,h3,h1',h2',h3',aM,bQ,aB,eK]
theorem aPT (l:List Cl) (a b:Tp):aIt l a b=some (cK l a b,()):=by
 unfold aIt cK
 rw[uM]
 cases a.1==4 <;> cases a.1==3 <;> cases b.1==3 <;> cases a==b <;> cases a.1==1 <;> rfl
theorem tW (l:List Cl):∀(n:Nat) (c:Int),c.toNat<n→(cC l c).length≤n
 | 0,_,h=>by omega
 | n+1,c,h=>by
  by_cases hc:c<0
  ·rw[fK hc];simp
  ·rw[hJ (by omega),aF]
   have hlt:=lL (l:=l) (c:=c) (by omega)
   by_cases hk:kup l c<0
   ·rw[fK hk];simp
   ·have:=tW l n (kup l c) (by omega)
    omega
theorem iP {α:Type} {l:List α} (h:okL l=true):l.length<1000000:=by simpa[okL] using h
theorem aKU (l:List Cl) (hl:l.length<1000000):∀(n:Nat) (c:Int) (out:List Int),c.toNat<n→c<(l.length:Int)→out.length+n<3000000→
  aE (uZ l) (n+1) (c,out,())=some (out++cC l c,())
 | 0,_,_,h,_,_=>by omega
 | n+1,c,out,h,hcl,ho=>by
  rw[aY,uZ]
  by_cases hc:c<0
  ·have h0:¬c≥0:=by omega
   rw[fK hc]
   simp[h0]
  ·have h0:c≥0:=by omega
   have h0':0≤c:=by omega
   have hlt:=lL (l:=l) (c:=c) (by omega)
   have hroom:out.length+[c].length<rowMax:=by simp[rowMax];omega
   rw[hJ (by omega)]
   have hk:kup l c=bif decide ((l.getD c.toNat zCl).1≥c) then -1 else (l.getD c.toNat zCl).1:=by
    have e1:¬c≥(l.length:Int):=by omega
    unfold kup eF
    simp only[hc,e1,bQ,mB]
   simp only[h0,hcl,hroom,aM,aH,aA]
   have fin:aE (uZ l) (n+1) (kup l c,out++[c],())=some (out++(c::cC l (kup l c)),()):=by
    by_cases hk:kup l c<0
    ·rw[aY]
     unfold uZ
     have:¬kup l c≥0:=by omega
     rw[fK hk]
     simp[this]
    ·rw[aKU l hl n (kup l c) (out++[c]) (by omega) (by omega) (by simp;omega)]
     simp
   rw[hk] at fin⊢
   cases hd:decide ((l.getD c.toNat zCl).1≥c)
   ·rw[hd] at fin;simpa using fin
   ·rw[hd] at fin;simpa using fin
theorem aNr (l:List Cl) (c:Int) (r) (h:jN l c=some r):∃k,aGw k l c=some r:=by
 unfold jN at h
 cases hl:okL l <;> simp only[hl,aA,aB] at h
 ·cases h
 injection h with h
 subst h
 have hlt:=iP hl
 refine⟨c.toNat+1+1,?_⟩
 unfold aGw cB
 by_cases hc:c<(l.length:Int)
 ·rw[aKU l hlt (c.toNat+1) c [] (by omega) hc (by simp;omega)]
  simp[hc]
 ·rw[aY,uZ]
  have h0:c≥0:=by omega
  simp[h0,hc]
theorem aM0 (l:List Cl) (a b:Tp) (r) (h:mH l a b=some r):aF4 l a b=some r:=by
 unfold mH at h
 cases hl:okL l <;> simp only[hl,aA,aB] at h
 ·cases h
 injection h with h
 subst h
 have hlt:=iP hl
 unfold aF4 uX jN
 rw[uM]
 have hlen:(cB l a.2.1).length<9223372036854775807:=by
  unfold cB
  by_cases hc:a.2.1<(l.length:Int)
  ·have:=tW l (a.2.1.toNat+1) a.2.1 (by omega)
   simp only[hc,aM,aA]
   omega
  ·simp[hc]
 have hrin:rin (cB l a.2.1) b.2.1=some ((cB l a.2.1).contains b.2.1,()):=by
  unfold rin
  rw[aI hlen];rfl
 simp only[hl,aA,aJ,hrin,sL]
 by_cases h1:a.1=1
 ·have e3:(a.1==3)=false:=by rw[h1];rfl
  have e1:(a.1==1)=true:=by rw[h1];rfl
  rw[e1,e3]
  cases a.1==4 <;> cases a==b <;> rfl
 ·have e1:(a.1==1)=false:=by simpa using h1
  rw[e1]
  cases a.1==4 <;> cases a.1==3 <;> cases b.1==3 <;> cases a.1==2 <;> cases a==b <;> rfl
end Go.Pli

namespace Go.Pli
open Go Go.PM
theorem aCg {α:Type} {p:Nat→α→Bool}:∀(l:List α) (k:Nat),jY p k l=true↔∀(j:Nat) x,l[j]? =some x→p (k+j) x=true
 | [],k=>by simp[jY]
 | x::l,k=>by
  simp only[jY,aC]
  rw[aCg l (k+1)]
  constructor
  ·intro⟨h1,h2⟩ j y hy
   cases j with
   | zero=>simp at hy;subst hy;simpa using h1
   | succ j=>
    have:=h2 j y (by simpa using hy)
    rwa [bN,cH 1 j] at this
  ·intro h
   refine⟨by simpa using h 0 x rfl,fun j y hy=>?_⟩
   have:=h (j+1) y (by simpa using hy)
   rwa [bN,cH 1 j]
theorem aDQ {α σ R:Type} {L:σ→(σ→Option R)→Option R} {xs:List α} {st:Nat→σ} {p:Nat→α→Bool} {ex fin:Option R}
  (h1:∀(k:Nat) (x:α) (rec),xs[k]? =some x→k<xs.length→L (st k) rec=bif p k x then rec (st (k+1)) else ex)
  (h2:∀rec,L (st xs.length) rec=fin):∀F:Nat,xs.length<F→aE L F (st 0)=bif jY p 0 xs then fin else ex:=by
 have key:∀(l pre:List α) (F:Nat),xs=pre++l→l.length<F→aE L F (st pre.length)=bif jY p pre.length l then fin else ex:=by
  intro l
  induction l with
  | nil=>
   intro pre F hx hF
   obtain⟨F,rfl⟩:∃n,F=n+1:=⟨F - 1,by simp at hF;omega⟩
   rw[bZ] at hx
   subst hx
   rw[aY,h2]
   rfl
  | cons x l ih=>
   intro pre F hx hF
   obtain⟨F,rfl⟩:∃n,F=n+1:=⟨F - 1,by simp at hF;omega⟩
   have hk:xs[pre.length]? =some x:=by rw[hx];simp
   have hl:pre.length<xs.length:=by rw[hx];simp
   rw[aY,h1 pre.length x _ hk hl]
   have:=ih (pre++[x]) F (by rw[hx];simp) (by simp only[aF] at hF;omega)
   simp only[aX,aF,bT,bR] at this
   rw[this]
   simp only[jY]
   cases p pre.length x <;> rfl
 intro F hF
 exact key xs [] F rfl hF
theorem yK {q:Nat→Bool} {n:Nat}:(List.range n).all q=true↔∀k,k<n→q k=true:=by
 simp[bM]
theorem aBv {R:Type} {L:Bool×Int×Unit→(Bool×Int×Unit→Option R)→Option R} {N:Nat} {q:Nat→Bool} {fin:Bool→Option R}
  (h1:∀(k:Nat) (rec),k<N→(∀j,j<k→q j=true)→L (true,(k:Int),()) rec=rec (q k,((k+1:Nat):Int),())∨(q k=false∧L (true,(k:Int),()) rec=fin false))
  (h0:∀(k:Nat) rec,k≤N→L (false,(k:Int),()) rec=fin false) (h2:∀rec,L (true,(N:Int),()) rec=fin true):
  ∀(F:Nat) (b:Bool),N+1<F→aE L F (b,((0:Nat):Int),())=fin (b&&(List.range N).all q):=by
 have hf:∀(F k:Nat),0<F→k≤N→aE L F (false,(k:Int),())=fin false:=fun F k hF hk=>by
  obtain⟨F,rfl⟩:∃n,F=n+1:=⟨F - 1,by omega⟩
  rw[aY,h0 k _ hk]
 have key:∀(d k F:Nat),k+d=N→d+1<F→(∀j,j<k→q j=true)→aE L F (true,(k:Int),())=fin ((List.range N).all q):=by
  intro d
  induction d with
  | zero=>
   intro k F hk hF hh
   obtain⟨F,rfl⟩:∃n,F=n+1:=⟨F - 1,by omega⟩
   have:k=N:=by omega
   subst this
   rw[aY,h2,yK.2 hh]
  | succ d ih=>
   intro k F hk hF hh
   obtain⟨F,rfl⟩:∃n,F=n+1:=⟨F - 1,by omega⟩
   rw[aY]
   cases hq:q k with
   | true=>
    rcases h1 k (aE L F) (by omega) hh with h | ⟨h,_⟩
    ·rw[h,hq]
     refine ih (k+1) F (by omega) (by omega) fun j hj=>?_
     rcases eT j k with h | h
     ·exact hh j h
     ·have:j=k:=by omega
      subst this;exact hq
    ·rw[hq] at h;cases h
   | false=>
    have:(List.range N).all q=false:=by
     cases ha:(List.range N).all q with
     | false=>rfl
     | true=>rw[yK.1 ha k (by omega)] at hq;cases hq
    rw[this]
    rcases h1 k (aE L F) (by omega) hh with h | ⟨_,h⟩
    ·rw[h,hq]
     exact hf F (k+1) (by omega) (by omega)
    ·exact h
 intro F b hF
 cases b with
 | true=>simpa using key N 0 F (by omega) hF fun j hj=>by omega
 | false=>simpa using hf F 0 (by omega) (by omega)
structure Fit (m:Im):Prop where
 classes:m.1.length≤8
 statics:iF m.2.1 8=true
 ints:m.2.2.1.length≤16
 methods:m.2.2.2.1.length≤12
 cls:∀c∈m.1,pP c=true
 mts:∀x∈m.2.2.2.1,lN x=true
 entries:jV m.2.2.2.2.1 12 11=true
 stack:fS m.2.2.2.2.2.1 4096=true
 heap:fS m.2.2.2.2.2.2.1 4096=true
theorem cV {m:Im} (h:bW m=true):Fit m:=by
 simp only[bW,aC,aP,bM] at h
 obtain⟨h1,h2,h3,h4,h5,h6,h7,h8,h9⟩:=h
 exact⟨by omega,h2,by omega,by omega,h5,h6,h7,h8,h9⟩
theorem zY {c:Cl} (h:pP c=true):(-1≤c.1∧c.1<8)∧(c.2.1.length≤8∧∀t∈c.2.1,jU t=true)∧(c.2.2.1.length≤4∧∀n∈c.2.2.1,0≤n∧n≤11):=by
 simp only[pP,iF,jV,fS,aC,aP,bM] at h
 obtain⟨h1,h2,⟨h3,h4⟩,h5,h6⟩:=h
 exact⟨⟨h1,h2⟩,⟨by omega,h4⟩,⟨by omega,h6⟩⟩
theorem lH {x:Mt} (h:lN x=true):(x.1.length≤4∧∀t∈x.1,jU t=true)∧(x.2.1.length≤8∧∀t∈x.2.1,jU t=true)∧jU x.2.2.1=true∧(x.2.2.2.1.length≤64∧∀i∈x.2.2.2.1,fG i=true)∧
  (0≤x.2.2.2.2.1∧x.2.2.2.2.1≤8)∧(0≤x.2.2.2.2.2.1∧x.2.2.2.2.2.1≤4096)∧(x.2.2.2.2.2.2.1.length≤64∧∀n∈x.2.2.2.2.2.2.1,0≤n∧n≤4096):=by
 simp only[lN,iF,jV,fS,aC,aP,bM] at h
 obtain⟨⟨h1,h2⟩,⟨h3,h4⟩,h5,h6,h7,h8,h9,h10,h11⟩:=h
 exact⟨⟨by omega,h2⟩,⟨by omega,h4⟩,h5,⟨by omega,h7⟩,h8,h9,⟨by omega,h11⟩⟩
theorem aB1 {m:Im} {c:Int} (h0:0≤c) (h1:c<(m.1.length:Int)):bX m c∈m.1:=by
 have h:c.toNat<m.1.length:=by omega
 unfold bX
 rw[getD_some (aT h)]
 exact dU h
theorem pH {m:Im} {f:Int} (h0:0≤f) (h1:f<(m.2.2.2.1.length:Int)):aD m f∈m.2.2.2.1:=by
 have h:f.toNat<m.2.2.2.1.length:=by omega
 unfold aD
 rw[getD_some (aT h)]
 exact dU h
theorem aOh {m:Im} {c:Int} (h:sU m c=true):Fit m∧0≤c∧c<(m.1.length:Int)∧∀k:Nat,(k:Int)<c→iS m (k:Int)=true:=by
 simp only[sU,aC,aP] at h
 obtain⟨h1,h2,h3,h4⟩:=h
 exact⟨cV h1,h2,h3,fun k hk=>yK.1 h4 k (by omega)⟩
theorem uA {m:Im} (h:kX m=true) {c:Int} (h0:0≤c) (h1:c<(m.1.length:Int)):iS m c=true:=by
 have:=yK.1 h c.toNat (by omega)
 rwa [show ((c.toNat:Nat):Int)=c by omega] at this
theorem sF {m:Im} {c:Int} (h:iS m c=true) {k:Nat} {f:Int} (hk:(bX m c).2.2.1[k]? =some f):(0≤f∧f<(m.2.2.2.1.length:Int))∧0<(aD m f).1.length:=by
 simp only[iS,aC,aP] at h
 obtain⟨_,_,_,_,h5⟩:=h
 have:=(aCg _ 0).1 h5 k f hk
 simp only[oU,sin,wP,aC,aP] at this
 exact⟨this.1,this.2.1.1⟩
theorem aN0 (m:Im) (l:List Tp) (h:aN1 m l):∃k,aGR k m l=some (nN m l,()):=by
 refine⟨l.length+1,?_⟩
 unfold aGR nN fH
 have key:aE (aAX m l) (l.length+1) ((0:Int),())=bif (l.all fun t=>gD t (m.1.length:Int)) then some (true,()) else some (false,()):=by
  refine lJ (st:=fun k=>((k:Int),())) (p:=fun t=>gD t (m.1.length:Int)) (fun k x rec hk hlt=>?_) (fun rec=>?_) _ (by omega)
  ·rw[aAX]
   simp only[dlt hlt,dge,aH,aA,aR,getD_some hk,bB hlt h.2.1.1,sN]
   cases gD x (m.1.length:Int) <;> rfl
  ·rw[aAX]
   simp only[bH,aB]
 rw[key]
 cases l.all fun t=>gD t (m.1.length:Int) <;> rfl
theorem aRn {α:Type} (l:List α) (n:Nat):(l.take l.length).drop n=l.drop n:=by rw[iA]
end Go.Pli

namespace Go.Pli
open Go Go.PM
theorem aMz {m:Im} {c:Int} {k:Nat} {f:Int} (hf:Fit m) (h0:0≤c) (h1:c<(m.1.length:Int)) (hk:(bX m c).2.2.1[k]? =some f):0≤f∧f≤11:=
 (zY (hf.cls _ (aB1 h0 h1))).2.2.2 f (kY hk)
theorem aK6 {m:Im} {c:Int} (hh:∀k:Nat,(k:Int)<c→iS m (k:Int)=true) (hs:eF m.1 c<c) {k:Nat} (hk:k<(eW m c).length):
  (0≤(eW m c).getD k 0∧(eW m c).getD k 0<(m.2.2.2.1.length:Int))∧0<(aD m ((eW m c).getD k 0)).1.length:=by
 unfold eW at hk⊢
 by_cases h0:0≤eF m.1 c
 ·simp only[h0,aM,aA] at hk⊢
  have hcl:iS m (eF m.1 c)=true:=by
   have:=hh (eF m.1 c).toNat (by omega)
   rwa [show (((eF m.1 c).toNat:Nat):Int)=eF m.1 c by omega] at this
  have hg:=aT hk
  rw[getD_some hg]
  exact sF hcl hg
 ·simp[h0] at hk
end Go.Pli
