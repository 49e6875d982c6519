/- Images: what the functions come to: what fits. -/
import Derived.Test.YtcofionghgmldaaGreatPliSp
import Derived.Test.YtcofionghgmldaaGreatPliInst
namespace Go.Pli
open Go Go.PM
theorem aZQ (s:List Cl):aOC s=some (idL s,()):=by simp[aOC,idL]
theorem aZH (s:List Mt):aOx s=some (idL s,()):=by simp[aOx,idL]
theorem aZC (s:List Tp):aOu s=some (idL s,()):=by simp[aOu,idL]
theorem aZL (s:List Int):aOA s=some (idL s,()):=by simp[aOA,idL]
theorem aZB (s:List Ins):aOt s=some (idL s,()):=by simp[aOt,idL]
theorem aZJ (s:List Int):aOy s=some (idL s,()):=by simp[aOy,idL]
theorem aVI (n m:Int):aMw n m=some (cY n m,()):=by
 unfold aMw cY;by_cases h:0≤n
 ·have:n≥0:=h;simp[h]
 ·have:¬n≥0:=h;simp[h]
theorem aVL (t:Tp):aMz t=some (ityp t,()):=by
 unfold aMz ityp;cases cY t.1 5 <;> cases t.2.1==0 <;> cases t.1==3 <;> rfl
theorem aVM (t:Tp):aVO t=some (aAa t,()):=rfl
theorem aCh {α:Type} (p:α→Bool) (l:List α):(l.any fun x=> !p x)= !l.all p:=by
 induction l with
 | nil=>rfl
 | cons x l ih=>simp[ih]
theorem aVK (l:List Tp) (m:Int):aMx l m=some (dH l m,()):=by
 unfold aMx dH aB2;have:l.any aAa= !l.all ityp:=aCh ityp l;rw[this];cases decide ((l.length:Int)≤m) <;> simp
theorem aVX (n m:Int):aVZ n m=some (wO n m,()):=rfl
theorem aVW (l:List Int) (c m:Int):aME l c m=some (eG l c m,()):=by
 unfold aME eG aB3;have:(l.any fun n=>wO n m)= !l.all fun n=>cY n m:=aCh (fun n=>cY n m) l;simp only;rw[this];cases decide ((l.length:Int)≤c) <;> simp
theorem aWZ (x:Cl):aMO x=some (iclass x,()):=by
 unfold aMO iclass;have h1:decide (x.1≥(-1:Int))=decide (-1≤x.1):=rfl;rw[h1];cases decide (-1≤x.1) <;> cases decide (x.1<8) <;> cases dH x.2.1 8 <;> rfl
theorem aWP (x:Cl):aWR x=some (aAg x,()):=rfl
theorem aWM (x:Mt):aWO x=some (aAf x,()):=rfl
theorem dgt (a b:Int):decide (a>b)= !decide (a≤b):=by
 by_cases h:a≤b
 ·have:¬a>b:=by omega
  simp[h]
 ·have:a>b:=by omega
  simp[this]
theorem aWL (m:Im):aMM m=some (bI m,()):=by
 unfold aMM bI aB7 aB5;have h1:m.1.any aAg= !m.1.all iclass:=aCh iclass _;have h2:m.2.2.2.1.any aAf= !m.2.2.2.1.all imethod:=aCh imethod _;rw[h1,h2,dgt,dgt,dgt];cases decide ((m.1.length:Int)≤8) <;> cases dH m.2.1 8 <;> cases decide ((m.2.2.1.length:Int)≤16) <;> cases decide ((m.2.2.2.1.length:Int)≤12) <;> cases m.1.all iclass <;>
  cases m.2.2.2.1.all imethod <;> cases eG m.2.2.2.2.1 12 11 <;> cases cY m.2.2.2.2.2.1 4096 <;> rfl
theorem aWD (x:Mt):∃k,aMJ k x=some (imethod x,()):=by
 refine⟨x.2.2.2.1.length+1,?_⟩;unfold aMJ;rw[dgt];by_cases hl:(x.2.2.2.1.length:Int)≤64
 ·have hl2:x.2.2.2.1.length≤lenMax:=by simp only[lenMax];omega
  have hfin:aD (aD4 x) (x.2.2.2.1.length+1) ((0:Int),())=bif x.2.2.2.1.all dV then
    (bif cY x.2.2.2.2.1 8 then (bif cY x.2.2.2.2.2.1 4096 then some (eG x.2.2.2.2.2.2.1 64 4096,()) else some (false,())) else some (false,())) else some (false,()):=by
   refine gV (st:=fun k=>((k:Int),())) (p:=dV) (fun k i rec hk hlt=>?_) (fun rec=>?_) _ (fM _)
   ·unfold aD4;simp only[dlt hlt,dge,aG,aA,aL,getD_some hk,aQ hlt hl2];cases dV i <;> rfl
   ·unfold aD4;simp only[aU,aB]
  rw[hfin];unfold imethod;simp only[hl,aK,aV,aB];cases dH x.1 4 <;> cases dH x.2.1 8 <;> cases ityp x.2.2.1 <;> cases x.2.2.2.1.all dV <;> cases cY x.2.2.2.2.1 8 <;> cases cY x.2.2.2.2.2.1 4096 <;> rfl
 ·unfold imethod;simp only[hl,bB,bU,aA];cases dH x.1 4 <;> cases dH x.2.1 8 <;> cases ityp x.2.2.1 <;> rfl
theorem aWz (l:List Cl) (c:Unit) (h:aWC l c):∃k,aWB k l c=some (aD3 l c,()):=by
 refine⟨l.length+1,uE (st:=fun k=>((k:Int),())) (fun k x rec hk hlt=>?_) (fun rec=>?_) _ (fM _)⟩
 ·unfold aHi;simp only[dlt hlt,dge,aG,aA,aL,getD_some hk,aQ hlt h.1.1]
 ·unfold aHi;simp only[aU,aB]
theorem aZe (l:List Cl) (c:Unit) (_:aZg l c):aOg l c=some (aB7 l c,()):=by
 unfold aOg aD3 aB7;rw[sE]
theorem aWj (l:List Mt) (c:Unit) (h:aWm l c):∃k,aWl k l c=some (aDZ l c,()):=by
 refine⟨l.length+1,uE (st:=fun k=>((k:Int),())) (fun k x rec hk hlt=>?_) (fun rec=>?_) _ (fM _)⟩
 ·unfold aHe;simp only[dlt hlt,dge,aG,aA,aL,getD_some hk,aQ hlt h.1.1]
 ·unfold aHe;simp only[aU,aB]
theorem aY3 (l:List Mt) (c:Unit) (_:aY5 l c):aOc l c=some (aB5 l c,()):=by
 unfold aOc aDZ aB5;rw[sE]
theorem aV7 (l:List Tp) (c:Unit) (h:aWa l c):∃k,aV9 k l c=some (aDW l c,()):=by
 refine⟨l.length+1,uE (st:=fun k=>((k:Int),())) (fun k x rec hk hlt=>?_) (fun rec=>?_) _ (fM _)⟩
 ·unfold aHb;simp only[dlt hlt,dge,aG,aA,aL,getD_some hk,aQ hlt h.1.1]
 ·unfold aHb;simp only[aU,aB]
theorem aYU (l:List Tp) (c:Unit) (_:aYW l c):aN9 l c=some (aB2 l c,()):=by
 unfold aN9 aDW aB2;rw[sE]
theorem aWr (l:List Tp) (c:Unit×Unit) (h:aWu l c):∃k,aWt k l c=some (aD1 l c,()):=by
 refine⟨l.length+1,uE (st:=fun k=>((k:Int),())) (fun k x rec hk hlt=>?_) (fun rec=>?_) _ (fM _)⟩
 ·unfold aHg;simp only[dlt hlt,dge,aG,aA,aL,getD_some hk,aQ hlt h.1.1]
 ·unfold aHg;simp only[aU,aB]
theorem aY8 (l:List Tp) (c:Unit×Unit) (_:aZa l c):aOe l c=some (aAw l c,()):=by
 unfold aOe aD1 aAw;rw[sE]
theorem aWb (l:List Int) (c:Int×Unit) (h:aWe l c):∃k,aWd k l c=some (aDX l c,()):=by
 refine⟨l.length+1,uE (st:=fun k=>((k:Int),())) (p:=fun n=>wO n c.1) (fun k x rec hk hlt=>?_) (fun rec=>?_) _ (fM _)⟩
 ·unfold aHc;simp only[dlt hlt,dge,aG,aA,aL,getD_some hk,aQ hlt h.1.1]
 ·unfold aHc;simp only[aU,aB]
theorem aYX (l:List Int) (c:Int×Unit) (_:aYZ l c):aOa l c=some (aB3 l c,()):=by
 unfold aOa aDX aB3;rw[sE]
theorem aTv (n a b:Int):aKR n a b=some (jS n a b,()):=by
 unfold aKR jS;have h1:decide (n≥a)=decide (a≤n):=rfl;rw[h1];cases decide (a≤n) <;> rfl
theorem aS8 (t:Tp):aKF t=some (tT t,()):=by
 unfold aKF tT ityp jS cY;cases decide (0≤t.1)&&decide (t.1≤5) <;> cases t.2.1==0 <;> cases t.1==3 <;> rfl
theorem aTs (l:List Int) (c m:Int) (h:aTu l c m):∃k,aKQ k l c m=some (rT l c m,()):=by
 refine⟨l.length+1,?_⟩;have key:aD (aDg l m) (l.length+1) ((0:Int),())=bif l.all (fun n=>cY n m) then some (true,()) else some (false,()):=by
  refine gV (st:=fun k=>((k:Int),())) (p:=fun n=>cY n m) (fun k x rec hk hlt=>?_) (fun rec=>?_) _ (fM _)
  ·unfold aDg;simp only[dlt hlt,dge,aG,aA,aL,getD_some hk,aQ hlt h.1.1];unfold jS cY;cases decide (0≤x)&&decide (x≤m) <;> rfl
  ·unfold aDg;simp only[aU,aB]
 unfold aKQ;rw[key,dgt];unfold rT eG;cases decide ((l.length:Int)≤c) <;> simp;cases l.all fun n=>cY n m <;> rfl
theorem aS5 (l:List Tp) (c:Int) (h:aS7 l c):∃k,aKD k l c=some (oM l c,()):=by
 refine⟨l.length+1,?_⟩;have key:aD (aC9 l) (l.length+1) ((0:Int),())=bif l.all ityp then some (true,()) else some (false,()):=by
  refine gV (st:=fun k=>((k:Int),())) (p:=ityp) (fun k x rec hk hlt=>?_) (fun rec=>?_) _ (fM _)
  ·unfold aC9;simp only[dlt hlt,dge,aG,aA,aL,getD_some hk,aQ hlt h.1.1];unfold tT;cases ityp x <;> rfl
  ·unfold aC9;simp only[aU,aB]
 unfold aKD;rw[key,dgt];unfold oM dH;cases decide ((l.length:Int)≤c) <;> simp;cases l.all ityp <;> rfl
theorem aTy (m:Im) (_:aTz m):∃k,aKT k m=some (jT m,()):=by
 refine⟨100,?_⟩;unfold aKT;rw[dgt,dgt,dgt];by_cases h1:(m.1.length:Int)≤8
 ·by_cases h3:(m.2.2.2.1.length:Int)≤12
  ·have key2:aD (aDj m 100) 100 ((0:Int),())=bif m.2.2.2.1.all imethod then some (true,()) else some (false,()):=by
    refine gV (st:=fun k=>((k:Int),())) (p:=imethod) (fun k x rec hk hlt=>?_) (fun rec=>?_) _ (by omega)
    ·unfold aDj;simp only[dlt hlt,dge,aG,aA,aL,getD_some hk];rw[dgt];by_cases hc:(x.2.2.2.1.length:Int)≤64
     ·have inner:aD (aDk m ((k:Int),()) rec) 100 ((0:Int),())=bif x.2.2.2.1.all dV then rec (((k+1:Nat):Int),()) else some (false,()):=by
       refine gV (st:=fun k=>((k:Int),())) (p:=dV) (fun j i rec2 hj hlj=>?_) (fun rec2=>?_) _ (by omega)
       ·unfold aDk;simp only[aL,getD_some hk,dlt hlj,dge,aG,aA,getD_some hj,aQ hlj (show x.2.2.2.1.length≤lenMax by simp only[lenMax];omega)];unfold aBb;cases dV i <;> rfl
       ·unfold aDk;simp only[aL,getD_some hk,aU,aB,aQ hlt (show m.2.2.2.1.length≤lenMax by simp only[lenMax];omega)]
      rw[inner];unfold imethod oM tT jS rT cY;simp only[hc,aK,cZ,aV,aB];cases dH x.1 4 <;> cases dH x.2.1 8 <;> cases ityp x.2.2.1 <;> cases x.2.2.2.1.all dV <;> cases decide (0≤x.2.2.2.2.1)&&decide (x.2.2.2.2.1≤8) <;>
       cases decide (0≤x.2.2.2.2.2.1)&&decide (x.2.2.2.2.2.1≤4096) <;> cases eG x.2.2.2.2.2.2.1 64 4096 <;> rfl
     ·unfold imethod oM tT;simp only[hc,bB,jP,bU,aA];cases dH x.1 4 <;> cases dH x.2.1 8 <;> cases ityp x.2.2.1 <;> rfl
    ·unfold aDj;simp only[aU,aB]
   have key1:aD (aDi m 100) 100 ((0:Int),())=bif m.1.all iclass then (bif m.2.2.2.1.all imethod then some (true,()) else some (false,())) else some (false,()):=by
    refine gV (st:=fun k=>((k:Int),())) (p:=iclass) (fun k x rec hk hlt=>?_) (fun rec=>?_) _ (by omega)
    ·unfold aDi;simp only[dlt hlt,dge,aG,aA,aL,getD_some hk,aQ hlt (show m.1.length≤lenMax by simp only[lenMax];omega)];have h7:decide (x.1≤7)=decide (x.1<8):=by by_cases h:x.1<8 <;> simp[h] <;> omega
     unfold iclass jS oM rT;rw[h7];cases decide (-1≤x.1) <;> cases decide (x.1<8) <;> cases dH x.2.1 8 <;> cases eG x.2.2.1 4 11 <;> rfl
    ·unfold aDi;simp only[aU,aB];exact key2
   rw[key1];unfold jT bI oM rT jS cY;simp only[h1,h3,aK,aV,aB,cZ];cases dH m.2.1 8 <;> cases decide ((m.2.2.1.length:Int)≤16) <;> cases m.1.all iclass <;> cases m.2.2.2.1.all imethod <;> cases eG m.2.2.2.2.1 12 11 <;>
    cases decide (0≤m.2.2.2.2.2.1)&&decide (m.2.2.2.2.2.1≤4096) <;> cases decide (0≤m.2.2.2.2.2.2.1)&&decide (m.2.2.2.2.2.2.1≤4096) <;> rfl
  ·unfold jT bI;simp only[h1,h3,aK,bB,aV,bU,aA,aB,jP,vE];cases decide ((m.2.2.1.length:Int)≤16) <;> rfl
 ·unfold jT bI;simp only[h1,bB,bU,aA,jP]
end Go.Pli

namespace Go.Pli
open Go Go.PM
theorem rH (x y:Tp):((x.1==y.1)&&((x.2.1==y.2.1)&&true))=(x==y):=by
 obtain⟨a,b,u⟩:=x;obtain⟨c,d,v⟩:=y;rfl
theorem aV5 (x y:Ins):((x.1==y.1)&&((x.2.1==y.2.1)&&((x.2.2.1==y.2.2.1)&&true)))=(x==y):=by
 obtain⟨a,b,c,u⟩:=x;obtain⟨d,e,f,v⟩:=y;rfl
theorem aZT (x y:Cl):((x.1==y.1)&&((x.2.1==y.2.1)&&((x.2.2.1==y.2.2.1)&&true)))=(x==y):=by
 obtain⟨a,b,c,u⟩:=x;obtain⟨d,e,f,v⟩:=y;rfl
theorem aUI (x y:Mt):((x.1==y.1)&&((x.2.1==y.2.1)&&((x.2.2.1==y.2.2.1)&&((x.2.2.2.1==y.2.2.2.1)&&((x.2.2.2.2.1==y.2.2.2.2.1)&&((x.2.2.2.2.2.1==y.2.2.2.2.2.1)&&((x.2.2.2.2.2.2.1==y.2.2.2.2.2.2.1)&&true)))))))=(x==y):=by
 obtain⟨a,b,c,d,e,f,g,u⟩:=x;obtain⟨a',b',c',d',e',f',g',v⟩:=y;rfl
theorem aWF (x y:Im):((x.1==y.1)&&((x.2.1==y.2.1)&&((x.2.2.1==y.2.2.1)&&((x.2.2.2.1==y.2.2.2.1)&&((x.2.2.2.2.1==y.2.2.2.2.1)&&((x.2.2.2.2.2.1==y.2.2.2.2.2.1)&&((x.2.2.2.2.2.2.1==y.2.2.2.2.2.2.1)&&true)))))))=(x==y):=by
 obtain⟨a,b,c,d,e,f,g,u⟩:=x;obtain⟨a',b',c',d',e',f',g',v⟩:=y;rfl
theorem aIm {α:Type} [BEq α]:∀(a b:List α),a.length=b.length→(a.zip b).all (fun q=>q.1==q.2)=(a==b)
 | [],[],_=>rfl
 | [],_::_,h=>by simp at h
 | _::_,[],h=>by simp at h
 | x::a,y::b,h=>by
  have ih:=aIm a b (by simpa using h);simp only[List.zip_cons_cons,fA,ih];rfl
theorem zR {α σ R:Type} [BEq α] {L:σ→(σ→Option R)→Option R} {a b:List α} {st:Nat→σ} {ex fin:Option R} (hl:a.length=b.length)
  (h1:∀(k:Nat) (x y:α) (rec),a[k]? =some x→b[k]? =some y→k<a.length→k<b.length→L (st k) rec=bif x==y then rec (st (k+1)) else ex)
  (h2:∀rec,L (st a.length) rec=fin):∀F:Nat,a.length<F→aD L F (st 0)=bif a==b then fin else ex:=by
 intro F hF;have hz:(a.zip b).length=a.length:=by rw[List.length_zip];omega
 rw[←aIm a b hl];refine gV (xs:=a.zip b) (p:=fun q=>q.1==q.2) (fun k q rec hk hlt=>?_) (fun rec=>by rw[hz];exact h2 rec) F (by omega);have hka:k<a.length:=by omega
 have hkb:k<b.length:=by omega
 rw[aX hlt] at hk;injection hk with hk
 subst hk;rw[List.getElem_zip];exact h1 k _ _ rec (aX hka) (aX hkb) hka hkb
theorem xS {α:Type} [BEq α] {a b:List α} (h:a.length≠b.length):(a==b)=false:=by
 induction a generalizing b with
 | nil=>cases b with
  | nil=>simp at h
  | cons=>rfl
 | cons x a ih=>cases b with
  | nil=>rfl
  | cons y b=>
   have:=ih (b:=b) (by simpa using h);show (x==y&&a==b)=false;rw[this];simp
theorem aDQ (a b:Nat):((a:Int) !=(b:Int))= !decide (a=b):=by
 by_cases h:a=b
 ·subst h;simp
 ·have:¬((a:Int)=(b:Int)):=by omega
  simp[h,this]
theorem aNG (a b:List Tp) (h:aYc a b):∃k,aNI k a b=some (eqL a b,()):=by
 refine⟨a.length+1,?_⟩;unfold aNI;rw[aDQ];by_cases hl:a.length=b.length
 ·have key:aD (aEn a b) (a.length+1) ((0:Int),())=bif a==b then some (true,()) else some (false,()):=by
   refine zR (st:=fun k=>((k:Int),())) hl (fun k x y rec hx hy hka hkb=>?_) (fun rec=>?_) _ (fM _)
   ·unfold aEn;simp only[dlt hka,dlt hkb,dge,aG,aA,aL,getD_some hx,getD_some hy,aQ hka h.1.1,rH];cases x==y <;> rfl
   ·unfold aEn;simp only[aU,aB]
  rw[key];unfold eqL;simp only[hl,aK,aV,aB];cases a==b <;> rfl
 ·unfold eqL;rw[xS hl];simp[hl]
theorem aCb {α:Type} [BEq α] (x y:α):(x !=y)= !(x==y):=rfl
theorem aYe (a b:List Int) (h:aYf a b):∃k,aNJ k a b=some (eqL a b,()):=by
 refine⟨a.length+1,?_⟩;unfold aNJ;rw[aDQ];by_cases hl:a.length=b.length
 ·have key:aD (aEo a b) (a.length+1) ((0:Int),())=bif a==b then some (true,()) else some (false,()):=by
   refine zR (st:=fun k=>((k:Int),())) hl (fun k x y rec hx hy hka hkb=>?_) (fun rec=>?_) _ (fM _)
   ·unfold aEo;simp only[dlt hka,dlt hkb,dge,aG,aA,aL,getD_some hx,getD_some hy,aQ hka h.1.1,aCb];cases x==y <;> rfl
   ·unfold aEo;simp only[aU,aB]
  rw[key];unfold eqL;simp only[hl,aK,aV,aB];cases a==b <;> rfl
 ·unfold eqL;rw[xS hl];simp[hl]
theorem aR4 (a b:List Tp) (h:aR6 a b):∃k,aR5 k a b=some (kN a b,()):=aNG a b h
theorem aSn (a b:List Int) (h:aSq a b):∃k,aSp k a b=some (tS a b,()):=aYe a b h
theorem aVA (t:Tp) (n:Int):aMs t n=some (fE t n,()):=by
 unfold aMs fE;have h:decide (t.2.1≥0)=decide (0≤t.2.1):=rfl;rw[h];cases t.1==1 <;> cases t.1==2 <;> cases t.1==3 <;> cases decide (0≤t.2.1) <;> rfl
theorem aSy (t:Tp) (n:Int):aKi t n=some (vV t n,()):=by
 unfold aKi vV fE;have h:decide (t.2.1≥0)=decide (0≤t.2.1):=rfl;rw[h];by_cases h1:t.1=1
 ·have h3:(t.1==3)=false:=by rw[h1];rfl
  have h1':(t.1==1)=true:=by rw[h1];rfl
  rw[h1',h3];cases t.2.1==0 <;> rfl
 ·have h1':(t.1==1)=false:=by simpa using h1
  rw[h1'];by_cases h2:t.1=2
  ·have h3:(t.1==3)=false:=by rw[h2];rfl
   have h2':(t.1==2)=true:=by rw[h2];rfl
   rw[h2',h3];cases t.2.1==0 <;> rfl
  ·have h2':(t.1==2)=false:=by simpa using h2
   rw[h2'];cases t.1==3 <;> cases decide (0≤t.2.1) <;> rfl
theorem aVz (t:Tp):aMr t=some (jY t,()):=by
 unfold aMr jY;cases t.1==2 <;> cases t.1==3 <;> rfl
theorem aSl (t:Tp):aJ8 t=some (vT t,()):=by
 unfold aJ8 vT jY;cases t.1==2 <;> cases t.1==3 <;> rfl
theorem aVu (l:List Cl) (c:Int):aMn l c=some (kup l c,()):=by
 unfold aMn kup bX;by_cases h1:c<0
 ·simp[h1]
 ·by_cases h2:c≥(l.length:Int)
  ·simp[h1,h2]
  ·have h3:0≤c:=by omega
   have h4:c<(l.length:Int):=by omega
   simp only[h1,h2,h3,h4,aK,bB,aG,aA,aB,iR];cases decide ((l.getD c.toNat zCl).1≥c) <;> rfl
theorem mK {l:List Cl} {c:Int} (h:0≤c):kup l c<c:=by
 unfold kup;by_cases h1:decide (c<0) || (decide (c≥(l.length:Int)) || decide (bX l c≥c))
 ·simp[h1];omega
 ·simp only[Bool.not_eq_true] at h1;rw[h1];simp only[Bool.or_eq_false_iff,uO] at h1;simp only[aB];omega
theorem aB9 {l:List Cl} {c:Int} (h:c<0):∀n,uT l n c=[]
 | 0=>rfl
 | n+1=>by simp[uT,h]
theorem aOK {l:List Cl}:∀(n m:Nat) (c:Int),c.toNat<n→c.toNat<m→uT l n c=uT l m c
 | 0,_,_,h,_=>by omega
 | _+1,0,_,_,h=>by omega
 | n+1,m+1,c,h1,h2=>by
  simp only[uT];by_cases hc:c<0
  ·simp[hc]
  ·have:=mK (l:=l) (c:=c) (by omega);simp only[hc,bB,aB];by_cases hk:kup l c<0
   ·rw[aB9 hk,aB9 hk]
   ·rw[aOK n m (kup l c) (by omega) (by omega)]
theorem fG {l:List Cl} {c:Int} (h:c<0):cI l c=[]:=aB9 h _
theorem gM {l:List Cl} {c:Int} (h:0≤c):cI l c=c::cI l (kup l c):=by
 have h0:¬c<0:=by omega
 have:=mK (l:=l) h;unfold cI;rw[uT];simp only[h0,bB,aB];by_cases hk:kup l c<0
 ·rw[aB9 hk,aB9 hk]
 ·rw[aOK c.toNat ((kup l c).toNat+1) (kup l c) (by omega) (by omega)]
theorem aO6 (l:List Cl) (b:Int):∀(n:Nat) (c:Int),c.toNat<n→aD (aDS l b) (n+1) (c,())=some ((cI l c).contains b,())
 | 0,_,h=>by omega
 | n+1,c,h=>by
  rw[aZ,aDS];by_cases hc:c<0
  ·have h0:¬c≥0:=by omega
   rw[fG hc];simp only[h0,bB,aB];rfl
  ·have h0:c≥0:=by omega
   have hlt:=mK (l:=l) (c:=c) (by omega);rw[gM (by omega)];simp only[h0,aK,aA,List.contains_cons];by_cases hb:c=b
   ·subst hb;simp
   ·have e1:(c==b)=false:=by simpa using hb
    have e2:(b==c)=false:=by simpa using fun h=>hb h.symm
    rw[e1,e2];simp only[aB,iR];by_cases hk:kup l c<0
    ·rw[fG hk,aZ,aDS];have:¬kup l c≥0:=by omega
     simp only[this,bB,aB];rfl
    ·exact aO6 l b n (kup l c) (by omega)
theorem aVD (l:List Cl) (a b:Int):∃k,aMu k l a b=some (dL l a b,()):=by
 refine⟨a.toNat+1+1,?_⟩;unfold aMu dL;rw[aO6 l b (a.toNat+1) a (by omega)];by_cases h1:b<0
 ·have:¬0≤b:=by omega
  simp[h1,this]
 ·have h1':0≤b:=by omega
  by_cases h2:b≥(l.length:Int)
  ·have:¬b<(l.length:Int):=by omega
   simp[h1,h2,this]
  ·have h2':b<(l.length:Int):=by omega
   by_cases h3:a≥(l.length:Int)
   ·have:¬a<(l.length:Int):=by omega
    simp[h1,h2,h3,this]
   ·have h3':a<(l.length:Int):=by omega
    simp only[h1,h2,h3,h1',h2',h3',aK,bB,aB,cZ]
theorem aVv (l:List Cl) (a b:Tp):aMo l a b=some (cN l a b,()):=by
 unfold aMo cN;rw[rH];cases a.1==4 <;> cases a.1==3 <;> cases b.1==3 <;> cases a==b <;> cases a.1==1 <;> rfl
theorem xF (l:List Cl):∀(n:Nat) (c:Int),c.toNat<n→(cI l c).length≤n
 | 0,_,h=>by omega
 | n+1,c,h=>by
  by_cases hc:c<0
  ·rw[fG hc];simp
  ·rw[gM (by omega),aJ];have hlt:=mK (l:=l) (c:=c) (by omega);by_cases hk:kup l c<0
   ·rw[fG hk];simp
   ·have:=xF l n (kup l c) (by omega);omega
theorem iG {α:Type} {l:List α} (h:okL l=true):l.length<1000000:=by simpa[okL] using h
theorem aPq (l:List Cl) (hl:l.length<1000000):∀(n:Nat) (c:Int) (out:List Int),c.toNat<n→c<(l.length:Int)→out.length+n<3000000→
  aD (yO l) (n+1) (c,out,())=some (out++cI l c,())
 | 0,_,_,h,_,_=>by omega
 | n+1,c,out,h,hcl,ho=>by
  rw[aZ,yO];by_cases hc:c<0
  ·have h0:¬c≥0:=by omega
   rw[fG hc];simp[h0]
  ·have h0:c≥0:=by omega
   have h0':0≤c:=by omega
   have hlt:=mK (l:=l) (c:=c) (by omega);have hroom:out.length+[c].length<rowMax:=by simp[rowMax];omega
   rw[gM (by omega)];have hk:kup l c=bif decide ((l.getD c.toNat zCl).1≥c) then -1 else (l.getD c.toNat zCl).1:=by
    have e1:¬c≥(l.length:Int):=by omega
    unfold kup bX;simp only[hc,e1,bB,iR]
   simp only[h0,hcl,hroom,aK,aG,aA];have fin:aD (yO l) (n+1) (kup l c,out++[c],())=some (out++(c::cI l (kup l c)),()):=by
    by_cases hk:kup l c<0
    ·rw[aZ];unfold yO;have:¬kup l c≥0:=by omega
     rw[fG hk];simp[this]
    ·rw[aPq l hl n (kup l c) (out++[c]) (by omega) (by omega) (by simp;omega)];simp
   rw[hk] at fin⊢;cases hd:decide ((l.getD c.toNat zCl).1≥c)
   ·rw[hd] at fin;simpa using fin
   ·rw[hd] at fin;simpa using fin
theorem aSI (l:List Cl) (c:Int) (r) (h:lF l c=some r):∃k,aKp k l c=some r:=by
 unfold lF at h;cases hl:okL l <;> simp only[hl,aA,aB] at h
 ·cases h
 injection h with h
 subst h;have hlt:=iG hl;refine⟨c.toNat+1+1,?_⟩;unfold aKp cP;by_cases hc:c<(l.length:Int)
 ·rw[aPq l hlt (c.toNat+1) c [] (by omega) hc (by simp;omega)];simp[hc]
 ·rw[aZ,yO];have h0:c≥0:=by omega
  simp[h0,hc]
theorem aR8 (l:List Cl) (a b:Tp) (r) (h:oL l a b=some r):aJU l a b=some r:=by
 unfold oL at h;cases hl:okL l <;> simp only[hl,aA,aB] at h
 ·cases h
 injection h with h
 subst h;have hlt:=iG hl;unfold aJU yJ lF;rw[rH];have hlen:(cP l a.2.1).length<9223372036854775807:=by
  unfold cP;by_cases hc:a.2.1<(l.length:Int)
  ·have:=xF l (a.2.1.toNat+1) a.2.1 (by omega);simp only[hc,aK,aA];omega
  ·simp[hc]
 have hrin:rin (cP l a.2.1) b.2.1=some ((cP l a.2.1).contains b.2.1,()):=by
  unfold rin;rw[aH hlen];rfl
 simp only[hl,aA,aF,hrin,vT];by_cases h1:a.1=1
 ·have e3:(a.1==3)=false:=by rw[h1];rfl
  have e1:(a.1==1)=true:=by rw[h1];rfl
  rw[e1,e3];cases a.1==4 <;> cases a==b <;> rfl
 ·have e1:(a.1==1)=false:=by simpa using h1
  rw[e1];cases a.1==4 <;> cases a.1==3 <;> cases b.1==3 <;> cases a.1==2 <;> cases a==b <;> rfl
end Go.Pli

namespace Go.Pli
open Go Go.PM
theorem aAF {α:Type} {p:Nat→α→Bool}:∀(l:List α) (k:Nat),iW p k l=true↔∀(j:Nat) x,l[j]? =some x→p (k+j) x=true
 | [],k=>by simp[iW]
 | x::l,k=>by
  simp only[iW,aC];rw[aAF l (k+1)];constructor
  ·intro⟨h1,h2⟩ j y hy;cases j with
   | zero=>simp at hy;subst hy;simpa using h1
   | succ j=>
    have:=h2 j y (by simpa using hy)
    rwa [cA,cS 1 j] at this
  ·intro h;refine⟨by simpa using h 0 x rfl,fun j y hy=>?_⟩;have:=h (j+1) y (by simpa using hy)
   rwa [cA,cS 1 j]
theorem zU {α σ R:Type} {L:σ→(σ→Option R)→Option R} {xs:List α} {st:Nat→σ} {p:Nat→α→Bool} {ex fin:Option R}
  (h1:∀(k:Nat) (x:α) (rec),xs[k]? =some x→k<xs.length→L (st k) rec=bif p k x then rec (st (k+1)) else ex)
  (h2:∀rec,L (st xs.length) rec=fin):∀F:Nat,xs.length<F→aD L F (st 0)=bif iW p 0 xs then fin else ex:=by
 have key:∀(l pre:List α) (F:Nat),xs=pre++l→l.length<F→aD L F (st pre.length)=bif iW p pre.length l then fin else ex:=by
  intro l
  induction l with
  | nil=>
   intro pre F hx hF;obtain⟨F,rfl⟩:∃n,F=n+1:=⟨F - 1,by simp at hF;omega⟩;rw[bZ] at hx;subst hx;rw[aZ,h2];rfl
  | cons x l ih=>
   intro pre F hx hF;obtain⟨F,rfl⟩:∃n,F=n+1:=⟨F - 1,by simp at hF;omega⟩;have hk:xs[pre.length]? =some x:=by rw[hx];simp
   have hl:pre.length<xs.length:=by rw[hx];simp
   rw[aZ,h1 pre.length x _ hk hl];have:=ih (pre++[x]) F (by rw[hx];simp) (by simp only[aJ] at hF;omega);simp only[aS,aJ,bJ,cG] at this;rw[this];simp only[iW];cases p pre.length x <;> rfl
 intro F hF;exact key xs [] F rfl hF
theorem pV {q:Nat→Bool} {n:Nat}:(List.range n).all q=true↔∀k,k<n→q k=true:=by
 simp[bT]
theorem aL6 {σ R:Type} {L:σ→(σ→Option R)→Option R} {N:Nat} {st:Nat→σ} {q:Nat→Bool} {ex fin:Option R}
  (h1:∀(k:Nat) (rec),k<N→(∀j,j<k→q j=true)→L (st k) rec=bif q k then rec (st (k+1)) else ex)
  (h2:∀rec,L (st N) rec=fin):∀F:Nat,N<F→aD L F (st 0)=bif (List.range N).all q then fin else ex:=by
 have key:∀(d k F:Nat),k+d=N→d<F→(∀j,j<k→q j=true)→aD L F (st k)=bif (List.range N).all q then fin else ex:=by
  intro d
  induction d with
  | zero=>
   intro k F hk hF hh;obtain⟨F,rfl⟩:∃n,F=n+1:=⟨F - 1,by omega⟩;have:k=N:=by omega
   subst this;rw[aZ,h2,pV.2 hh];rfl
  | succ d ih=>
   intro k F hk hF hh;obtain⟨F,rfl⟩:∃n,F=n+1:=⟨F - 1,by omega⟩;rw[aZ,h1 k _ (by omega) hh];cases hq:q k with
   | true=>
    simp only[aA];refine ih (k+1) F (by omega) (by omega) fun j hj=>?_;rcases fQ j k with h | h
    ·exact hh j h
    ·have:j=k:=by omega
     subst this;exact hq
   | false=>
    have:(List.range N).all q=false:=by
     cases ha:(List.range N).all q with
     | false=>rfl
     | true=>rw[pV.1 ha k (by omega)] at hq;cases hq
    rw[this];rfl
 intro F hF;exact key N 0 F (by omega) hF fun j hj=>by omega
theorem aDM {R:Type} {L:Bool×Int×Unit→(Bool×Int×Unit→Option R)→Option R} {N:Nat} {q:Nat→Bool} {fin:Bool→Option R}
  (h1:∀(k:Nat) (rec),k<N→(∀j,j<k→q j=true)→L (true,(k:Int),()) rec=rec (q k,((k+1:Nat):Int),())∨(q k=false∧L (true,(k:Int),()) rec=fin false))
  (h0:∀(k:Nat) rec,k≤N→L (false,(k:Int),()) rec=fin false) (h2:∀rec,L (true,(N:Int),()) rec=fin true):
  ∀(F:Nat) (b:Bool),N+1<F→aD L F (b,((0:Nat):Int),())=fin (b&&(List.range N).all q):=by
 have hf:∀(F k:Nat),0<F→k≤N→aD L F (false,(k:Int),())=fin false:=fun F k hF hk=>by
  obtain⟨F,rfl⟩:∃n,F=n+1:=⟨F - 1,by omega⟩;rw[aZ,h0 k _ hk]
 have key:∀(d k F:Nat),k+d=N→d+1<F→(∀j,j<k→q j=true)→aD L F (true,(k:Int),())=fin ((List.range N).all q):=by
  intro d
  induction d with
  | zero=>
   intro k F hk hF hh;obtain⟨F,rfl⟩:∃n,F=n+1:=⟨F - 1,by omega⟩;have:k=N:=by omega
   subst this;rw[aZ,h2,pV.2 hh]
  | succ d ih=>
   intro k F hk hF hh;obtain⟨F,rfl⟩:∃n,F=n+1:=⟨F - 1,by omega⟩;rw[aZ];cases hq:q k with
   | true=>
    rcases h1 k (aD L F) (by omega) hh with h | ⟨h,_⟩
    ·rw[h,hq];refine ih (k+1) F (by omega) (by omega) fun j hj=>?_;rcases fQ j k with h | h
     ·exact hh j h
     ·have:j=k:=by omega
      subst this;exact hq
    ·rw[hq] at h;cases h
   | false=>
    have:(List.range N).all q=false:=by
     cases ha:(List.range N).all q with
     | false=>rfl
     | true=>rw[pV.1 ha k (by omega)] at hq;cases hq
    rw[this];rcases h1 k (aD L F) (by omega) hh with h | ⟨_,h⟩
    ·rw[h,hq];exact hf F (k+1) (by omega) (by omega)
    ·exact h
 intro F b hF;cases b with
 | true=>simpa using key N 0 F (by omega) hF fun j hj=>by omega
 | false=>simpa using hf F 0 (by omega) (by omega)
structure Fit (m:Im):Prop where
 classes:m.1.length≤8
 statics:dH m.2.1 8=true
 ints:m.2.2.1.length≤16
 methods:m.2.2.2.1.length≤12
 cls:∀c∈m.1,iclass c=true
 mts:∀x∈m.2.2.2.1,imethod x=true
 entries:eG m.2.2.2.2.1 12 11=true
 stack:cY m.2.2.2.2.2.1 4096=true
 heap:cY m.2.2.2.2.2.2.1 4096=true
theorem cH {m:Im} (h:bI m=true):Fit m:=by
 simp only[bI,aC,aO,bT] at h;obtain⟨h1,h2,h3,h4,h5,h6,h7,h8,h9⟩:=h;exact⟨by omega,h2,by omega,by omega,h5,h6,h7,h8,h9⟩
theorem pG {c:Cl} (h:iclass c=true):(-1≤c.1∧c.1<8)∧(c.2.1.length≤8∧∀t∈c.2.1,ityp t=true)∧(c.2.2.1.length≤4∧∀n∈c.2.2.1,0≤n∧n≤11):=by
 simp only[iclass,dH,eG,cY,aC,aO,bT] at h;obtain⟨h1,h2,⟨h3,h4⟩,h5,h6⟩:=h;exact⟨⟨h1,h2⟩,⟨by omega,h4⟩,⟨by omega,h6⟩⟩
theorem jW {x:Mt} (h:imethod x=true):(x.1.length≤4∧∀t∈x.1,ityp t=true)∧(x.2.1.length≤8∧∀t∈x.2.1,ityp t=true)∧ityp x.2.2.1=true∧(x.2.2.2.1.length≤64∧∀i∈x.2.2.2.1,dV i=true)∧
  (0≤x.2.2.2.2.1∧x.2.2.2.2.1≤8)∧(0≤x.2.2.2.2.2.1∧x.2.2.2.2.2.1≤4096)∧(x.2.2.2.2.2.2.1.length≤64∧∀n∈x.2.2.2.2.2.2.1,0≤n∧n≤4096):=by
 simp only[imethod,dH,eG,cY,aC,aO,bT] at h;obtain⟨⟨h1,h2⟩,⟨h3,h4⟩,h5,h6,h7,h8,h9,h10,h11⟩:=h;exact⟨⟨by omega,h2⟩,⟨by omega,h4⟩,h5,⟨by omega,h7⟩,h8,h9,⟨by omega,h11⟩⟩
theorem xE {m:Im} {c:Int} (h0:0≤c) (h1:c<(m.1.length:Int)):bF m c∈m.1:=by
 have h:c.toNat<m.1.length:=by omega
 unfold bF;rw[getD_some (aX h)];exact dT h
theorem qB {m:Im} {f:Int} (h0:0≤f) (h1:f<(m.2.2.2.1.length:Int)):aE m f∈m.2.2.2.1:=by
 have h:f.toNat<m.2.2.2.1.length:=by omega
 unfold aE;rw[getD_some (aX h)];exact dT h
theorem aGc {m:Im} {c:Int} (h:jD m c=true):Fit m∧0≤c∧c<(m.1.length:Int)∧∀k:Nat,(k:Int)<c→eN m (k:Int)=true:=by
 simp only[jD,aC,aO] at h;obtain⟨h1,h2,h3,h4⟩:=h;exact⟨cH h1,h2,h3,fun k hk=>pV.1 h4 k (by omega)⟩
theorem sU {m:Im} (h:kG m=true) {c:Int} (h0:0≤c) (h1:c<(m.1.length:Int)):eN m c=true:=by
 have:=pV.1 h c.toNat (by omega)
 rwa [show ((c.toNat:Nat):Int)=c by omega] at this
theorem aTW {m:Im} (hf:bI m=true) (h:kG m=true) {c:Int} (h0:0≤c) (h1:c<(m.1.length:Int)):jD m c=true:=by
 simp only[jD,aC,aO];exact⟨hf,h0,h1,pV.2 fun k hk=>sU h (by omega) (by omega)⟩
theorem aFm {m:Im} {c:Int} (h:eN m c=true):bX m.1 c<c:=by
 simp only[eN,aC,aO] at h;exact h.1
theorem vN {m:Im} {c:Int} (h:eN m c=true) {k:Nat} {f:Int} (hk:(bF m c).2.2.1[k]? =some f):(0≤f∧f<(m.2.2.2.1.length:Int))∧0<(aE m f).1.length:=by
 simp only[eN,aC,aO] at h;obtain⟨_,_,_,_,h5⟩:=h;have:=(aAF _ 0).1 h5 k f hk;simp only[pR,sin,wT,aC,aO] at this;exact⟨this.1,this.2.1.1⟩
theorem aGZ {m:Im} {c:Int} (h0:0≤c) (h1:c<(m.1.length:Int)) (hs:bX m.1 c<c):kup m.1 c=bX m.1 c:=by
 unfold kup;have a:¬c<0:=by omega
 have b:¬c≥(m.1.length:Int):=by omega
 have d:¬bX m.1 c≥c:=by omega
 simp[a,b,d]
theorem aNB {m:Im} {c:Int} (h0:0≤c) (h1:c<(m.1.length:Int)) (hs:bX m.1 c<c):gZ m c=(bF m c).2.1.length+nB m c:=by
 unfold gZ nB;rw[gM h0,aGZ h0 h1 hs];rfl
theorem aRm (n c:Int):aJq n c=some (sin n c,()):=by
 unfold aJq sin;have:decide (n≥0)=decide (0≤n):=rfl;rw[this];cases decide (0≤n) <;> rfl
theorem aLY (l:List (List Tp)):∃M,∀x∈l,x.length≤M:=by
 induction l with
 | nil=>exact⟨0,by simp⟩
 | cons x l ih=>
  obtain⟨M,hM⟩:=ih;exact⟨x.length+M,fun y hy=>by
   rcases cB.1 hy with rfl | hy
   ·omega
   ·have:=hM y hy;omega⟩
theorem aRJ (m:Im) (l:List (List Tp)) (h:aRK m l):∃k,aJH k m l=some (kM m l,()):=by
 obtain⟨M,hM⟩:=aLY l;have hl:l.length≤lenMax∧∀x∈l,x.length≤lenMax:=⟨h.2.1.1,fun x hx=>(h.2.1.2 x hx).1⟩;refine⟨l.length+M+1,?_⟩;unfold aJH kM;have key:aD (aCO m l (l.length+M+1)) (l.length+M+1) ((0:Int),())=bif l.all (eC m) then some (true,()) else some (false,()):=by
  refine gV (st:=fun k=>((k:Int),())) (p:=eC m) (fun k x rec hk hlt=>?_) (fun rec=>?_) _ (by omega)
  ·rw[aCO];simp only[dlt hlt,dge,aG,aA];have hx:x∈l:=fR hk;refine gV (st:=fun k=>((k:Int),())) (p:=fun t=>fE t (m.1.length:Int)) (fun j t rec2 hj hlj=>?_) (fun rec2=>?_) _ (by have:=hM x hx;omega)
   ·rw[aFE];simp only[aL,getD_some hk,dlt hlj,dge,aG,aA,getD_some hj,aQ hlj (hl.2 x hx)];cases fE t (m.1.length:Int) <;> rfl
   ·rw[aFE];simp only[aL,getD_some hk,aU,aB,aQ hlt hl.1]
  ·rw[aCO];simp only[aU,aB]
 rw[key];cases l.all (eC m) <;> rfl
theorem aTw (m:Im) (l:List Tp) (h:aTx m l):∃k,aKS k m l=some (pZ m l,()):=by
 refine⟨l.length+1,?_⟩;unfold aKS pZ eC;have key:aD (aDh m l) (l.length+1) ((0:Int),())=bif (l.all fun t=>fE t (m.1.length:Int)) then some (true,()) else some (false,()):=by
  refine gV (st:=fun k=>((k:Int),())) (p:=fun t=>fE t (m.1.length:Int)) (fun k x rec hk hlt=>?_) (fun rec=>?_) _ (by omega)
  ·rw[aDh];simp only[dlt hlt,dge,aG,aA,aL,getD_some hk,aQ hlt h.2.1.1,vV];cases fE x (m.1.length:Int) <;> rfl
  ·rw[aDh];simp only[aU,aB]
 rw[key];cases l.all fun t=>fE t (m.1.length:Int) <;> rfl
theorem aJJ (m:Im) (hf:Fit m) (c:Int) (hc:c≤(m.1.length:Int)) (hh:∀k:Nat,(k:Int)<c→eN m (k:Int)=true) (sl:List Int):∀(n:Nat) (s:Int) (acc:Nat),s.toNat<n→s<c→acc+8*n≤1000→
  aD (aCP m (sl,())) (n+1) ((acc:Int),s,())=some (((acc+bK ((cI m.1 s).map fun s=>(bF m s).2.1.length):Nat):Int),sl,())
 | 0,_,_,h,_,_=>by omega
 | n+1,s,acc,h,hs,hb=>by
  rw[aZ,aCP];by_cases h0:s<0
  ·have:¬s≥0:=by omega
   rw[fG h0];simp[this,bK]
  ·have h1:s≥0:=by omega
   have h1':0≤s:=h1;have h2:s<(m.1.length:Int):=by omega
   have hcl:eN m s=true:=by
    have:=hh s.toNat (by omega)
    rwa [show ((s.toNat:Nat):Int)=s by omega] at this
   have hsup:=aFm hcl;rw[gM h1',aGZ h1' h2 hsup];have hcls:=(pG (hf.cls _ (xE h1' h2))).2.1.1;simp only[h1,h2,aK,aG,aA];have hd:m.1.getD s.toNat zCl=bF m s:=rfl;rw[hd,bV (by omega) (by omega)];have e:((acc:Int)+((bF m s).2.1.length:Int))=((acc+(bF m s).2.1.length:Nat):Int):=by omega
   rw[e];have hsd:(bF m s).1=bX m.1 s:=rfl;rw[hsd];by_cases hk:bX m.1 s<0
   ·rw[aZ,aCP,fG hk];have:¬bX m.1 s≥0:=by omega
    simp[this,bK]
   ·rw[aJJ m hf c hc hh sl n (bX m.1 s) _ (by omega) (by omega) (by omega)];simp only[dM,bK];rw[cA]
theorem aRO (m:Im) (c:Int) (r) (h:rN m c=some r):∃k,aJL k m c=some r:=by
 unfold rN at h;cases hp:jD m c&&decide (bX m.1 c<c) <;> simp only[hp,aA,aB] at h
 ·cases h
 injection h with h
 subst h;simp only[aC,aO] at hp;obtain⟨hf,h0,h1,hh⟩:=aGc hp.1;have hs:=hp.2;have hcl8:=hf.classes;refine⟨(bX m.1 c).toNat+1+1,?_⟩;have hd:(m.1.getD c.toNat zCl).1=bX m.1 c:=rfl;have hloop:=aJJ m hf c (by omega) hh (dU m c) ((bX m.1 c).toNat+1) (bX m.1 c) 0 (by omega) hs (by omega);unfold aJL;rw[hd];simp only[h0,h1,aK,aG,aA];have hup:(bif decide (bX m.1 c≥0) then bif decide (0≤bX m.1 c)&&decide (bX m.1 c<(m.1.length:Int)) then (some (.inl ((m.1.getD (bX m.1 c).toNat zCl).2.2.1,())):Option ((List Int×Unit)⊕(Int×List Int×Unit))) else none else some (.inl (([]:List Int),())))=some (.inl (dU m c,())):=by
  unfold dU;by_cases hk:0≤bX m.1 c
  ·have a:bX m.1 c≥0:=hk;have b:bX m.1 c<(m.1.length:Int):=by omega
   simp only[a,b,aK,aG,aA];rfl
  ·have a:¬bX m.1 c≥0:=hk;simp only[a,bB,aB]
 have hcast:∀x y:Nat,(x<y)=((x:Int)<(y:Int)):=fun x y=>by simp
 rw[hup];simp only[aF];unfold nB;simpa using hloop
theorem aRp (m:Im) (c f:Int) (r) (h:yF m c f=some r):aJr m c f=some r:=by
 unfold yF at h;cases hp:sin f (m.2.2.2.1.length:Int) <;> simp only[hp,aA,aB] at h
 ·cases h
 injection h with h
 subst h;simp only[sin,aC,aO] at hp;unfold aJr wT;have hd:m.2.2.2.1.getD f.toNat zMt=aE m f:=rfl;rw[hd];simp only[hp.1,hp.2,aK,aG,aA];by_cases hl:0<(aE m f).1.length
 ·have a:((aE m f).1.length:Int)>0:=by omega
  have b:(0:Int)<((aE m f).1.length:Int):=by omega
  simp[hl]
 ·have a:¬((aE m f).1.length:Int)>0:=by omega
  simp[hl]
theorem aHO {α:Type} (l:List α) (n:Nat):(l.take l.length).drop n=l.drop n:=by rw[iD]
theorem aRL (a b:Mt):aJI a b=some (aA7 a b,()):=by
 unfold aJI aA7 aCi eqL;rw[rH,aHO,aHO];by_cases ha:0<a.1.length
 ·have a1:(a.1.length:Int)>0:=by omega
  have a2:(1:Int)≤(a.1.length:Int):=by omega
  by_cases hb:0<b.1.length
  ·have b1:(b.1.length:Int)>0:=by omega
   have b2:(1:Int)≤(b.1.length:Int):=by omega
   simp only[ha,hb,a1,a2,b1,b2,aK,cZ,aA,fB];cases a.1.drop 1==b.1.drop 1 <;> rfl
  ·have b1:¬(b.1.length:Int)>0:=by omega
   simp[ha,hb]
 ·have a1:¬(a.1.length:Int)>0:=by omega
  simp[ha]
end Go.Pli

namespace Go.Pli
open Go Go.PM
theorem aJo {m:Im} {c:Int} {k:Nat} {f:Int} (hf:Fit m) (h0:0≤c) (h1:c<(m.1.length:Int)) (hk:(bF m c).2.2.1[k]? =some f):0≤f∧f≤11:=
 (pG (hf.cls _ (xE h0 h1))).2.2.2 f (fR hk)
theorem aIA {m:Im} {c:Int} (hh:∀k:Nat,(k:Int)<c→eN m (k:Int)=true) (hs:bX m.1 c<c) {k:Nat} (hk:k<(dU m c).length):
  (0≤(dU m c).getD k 0∧(dU m c).getD k 0<(m.2.2.2.1.length:Int))∧0<(aE m ((dU m c).getD k 0)).1.length:=by
 unfold dU at hk⊢;by_cases h0:0≤bX m.1 c
 ·simp only[h0,aK,aA] at hk⊢;have hcl:eN m (bX m.1 c)=true:=by
   have:=hh (bX m.1 c).toNat (by omega)
   rwa [show (((bX m.1 c).toNat:Nat):Int)=bX m.1 c by omega] at this
  have hg:=aX hk;rw[getD_some hg];exact vN hcl hg
 ·simp[h0] at hk
theorem aRA (m:Im) (c:Int) (r) (h:tM m c=some r):∃k,aJD k m c=some r:=by
 unfold tM at h;cases hp:jD m c <;> simp only[hp,aA,aB] at h
 ·cases h
 injection h with h
 subst h;obtain⟨hf,h0,h1,hh⟩:=aGc hp;refine⟨100,?_⟩;obtain⟨⟨c1,c2⟩,⟨c3,c4⟩,⟨c5,c6⟩⟩:=pG (hf.cls _ (xE h0 h1));unfold aJD eN;have hd:m.1.getD c.toNat zCl=bF m c:=rfl;have hd2:(bF m c).1=bX m.1 c:=rfl;rw[hd,hd2];simp only[h0,h1,aK,aG,aA];by_cases hs:bX m.1 c<c
 ·have hns:¬bX m.1 c≥c:=by omega
  simp only[hs,hns,aK,bB,aB,cZ];have hall:kM m [(bF m c).2.1]=eC m (bF m c).2.1:=by simp[kM]
  rw[hall];cases hg:eC m (bF m c).2.1
  ·rfl
  ·have hab:rN m c=some ((nB m c:Int),dU m c,()):=by
    unfold rN;simp[hp,hs]
   rw[hab,aNB h0 h1 hs];simp only[aV,aB,aF,cZ];have hup8:nB m c≤100:=by
    have key:∀(n:Nat) (s:Int),s.toNat<n→s<(m.1.length:Int)→(∀k:Nat,(k:Int)≤s→eN m (k:Int)=true)→bK ((cI m.1 s).map fun s=>(bF m s).2.1.length)≤8*n:=by
     intro n
     induction n with
     | zero=>intro s h;omega
     | succ n ih=>
      intro s hn hsl hk;by_cases hneg:s<0
      ·rw[fG hneg];simp[bK]
      ·have hcs:=hk s.toNat (by omega);rw[show ((s.toNat:Nat):Int)=s by omega] at hcs;have hsup:=aFm hcs;rw[gM (by omega),aGZ (by omega) hsl hsup];simp only[dM,bK];have hb:=(pG (hf.cls _ (xE (m:=m) (c:=s) (by omega) hsl))).2.1.1;by_cases hneg2:bX m.1 s<0
       ·rw[fG hneg2];simp[bK];omega
       ·have:=ih (bX m.1 s) (by omega) (by omega) (fun k hk2=>hk k (by omega));omega
    have hcl:=hf.classes;have:=key ((bX m.1 c).toNat+1) (bX m.1 c) (by omega) (by omega) (fun k hk=>hh k (by omega));unfold nB;omega
   rw[bV (by omega) (by omega)];by_cases h8:(bF m c).2.1.length+nB m c≤8
   ·have h8':¬((nB m c:Int)+((bF m c).2.1.length:Int))>8:=by omega
    simp only[h8,h8',aK,bB,aB,cZ];by_cases hu:(dU m c).length≤(bF m c).2.2.1.length
    ·have hu':¬((bF m c).2.2.1.length:Int)<((dU m c).length:Int):=by omega
     simp only[hu,hu',aK,bB,aB,cZ];have key:aD (aCM m c ((nB m c:Int),dU m c,())) 100 ((0:Int),())=bif iW (pR m c) 0 (bF m c).2.2.1 then some (true,()) else some (false,()):=by
      refine zU (st:=fun k=>((k:Int),())) (p:=pR m c) (fun k f rec hk hlt=>?_) (fun rec=>?_) _ (by omega)
      ·rw[aCM];have hfr:=aJo hf h0 h1 hk;simp only[hd,dlt hlt,dge,aG,aA,aL,getD_some hk,aQ hlt (show (bF m c).2.2.1.length≤lenMax by simp only[lenMax];omega)];unfold pR;cases hsin:sin f (m.2.2.2.1.length:Int)
       ·rfl
       ·have hsf:yF m c f=some (wT m c f,()):=by unfold yF;rw[hsin];rfl
        rw[hsf];simp only[aV,aB,aF,cZ];cases hfb:wT m c f
        ·rfl
        ·have hsr:0≤f∧f<(m.2.2.2.1.length:Int):=by simpa[sin] using hsin
         simp only[aV,aB,cZ];by_cases hku:k<(dU m c).length
         ·obtain⟨⟨u1,u2⟩,u3⟩:=aIA hh hs hku;simp only[dlt hku,hku,aA,hsr.1,hsr.2,u1,u2,aK,aG,aV,iR];have e1:m.2.2.2.1.getD f.toNat zMt=aE m f:=rfl;have e2:m.2.2.2.1.getD ((dU m c).getD k 0).toNat zMt=aE m ((dU m c).getD k 0):=rfl;rw[e1,e2];unfold aA7;cases aCi (aE m f) (aE m ((dU m c).getD k 0)) <;> rfl
         ·have:¬(k:Int)<((dU m c).length:Int):=by omega
          simp[this,hku]
      ·rw[aCM];simp only[hd,aU,aB]
     rw[key];cases iW (pR m c) 0 (bF m c).2.2.1 <;> rfl
    ·have hu':((bF m c).2.2.1.length:Int)<((dU m c).length:Int):=by omega
     simp[hu,hu']
   ·have h8':((nB m c:Int)+((bF m c).2.1.length:Int))>8:=by omega
    simp[h8,h8']
 ·have hns:bX m.1 c≥c:=by omega
  simp[hs,hns]
theorem aPE {m:Im} {c:Int} (_:Fit m) (_:0≤c) (_:c<(m.1.length:Int)) (hcB:eN m c=true):gZ m c≤8:=by
 simp only[eN,aC,aO] at hcB;exact hcB.2.2.1
theorem aRr (c:Int) (m:Im) (r) (h:vP c m=some r):aJs c m=some r:=by
 unfold vP at h;cases hp:bI m&&(kG m&&sin c (m.1.length:Int)) <;> simp only[hp,aA,aB] at h
 ·cases h
 injection h with h
 subst h;simp only[aC,sin,aO] at hp;obtain⟨hi,ha,h0,h1⟩:=hp;have hcB:=sU ha h0 h1;have hs:=aFm hcB;have hpc:=aTW hi ha h0 h1;have hab:rN m c=some ((nB m c:Int),dU m c,()):=by unfold rN;simp[hpc,hs]
 have hsm:=aPE (cH hi) h0 h1 hcB;rw[aNB h0 h1 hs] at hsm⊢;unfold aJs;rw[hab];have hd:m.1.getD c.toNat zCl=bF m c:=rfl;rw[hd];simp only[aF,h0,h1,aK,aG,aA];rw[bV (by omega) (by omega)];congr 2;omega
theorem aRk (m:Im) (x:Mt) (i:Ins) (f:Im×Unit) (r) (h:yE m x i f=some r):aJp m x i f=some r:=by
 unfold yE at h;cases hp:jU m x&&f.1==m <;> simp only[hp,aA,aB] at h
 ·cases h
 injection h with h
 subst h;simp only[aC,hC,jU] at hp;obtain⟨⟨hi,ha,hx⟩,hfm⟩:=hp;obtain⟨⟨x1,_⟩,⟨x2,_⟩,_,⟨x4,_⟩,_⟩:=jW hx;unfold aJp cL;rw[hfm];have hw:IntKind.i64.wrap ((x.1.length:Int)+(x.2.1.length:Int))=((x.1.length+x.2.1.length:Nat):Int):=by
  rw[bV (by omega) (by omega)];omega
 rw[hw];have h27:∀a:Bool,(bif a then (bif sin i.2.1 (m.1.length:Int) then (vP i.2.1 m).bind fun r9=>some (sin i.2.2.1 r9.1,()) else some (false,())) else none)=
   bif a then some (sin i.2.1 (m.1.length:Int)&&sin i.2.2.1 (gZ m i.2.1:Int),()) else (none:Option (Bool×Unit)):=fun a=>by
  cases a
  ·rfl
  ·simp only[aA];cases hsn:sin i.2.1 (m.1.length:Int)
   ·rfl
   ·have:vP i.2.1 m=some ((gZ m i.2.1:Int),()):=by unfold vP;simp[hi,ha,hsn]
    rw[this];rfl
 have h27':=h27 true;simp only[aA] at h27';have h32:(bif sin i.2.1 (m.1.length:Int) then (bif decide (0≤i.2.1)&&decide (i.2.1<m.1.length) then (some (sin i.2.2.1 ((m.1.getD i.2.1.toNat zCl).2.2.1.length:Int),()):Option (Bool×Unit)) else none) else some (false,()))=
   some (sin i.2.1 (m.1.length:Int)&&sin i.2.2.1 ((bF m i.2.1).2.2.1.length:Int),()):=by
  cases hsn:sin i.2.1 (m.1.length:Int)
  ·rfl
  ·have:0≤i.2.1∧i.2.1<(m.1.length:Int):=by simpa[sin] using hsn
   simp only[aA,this.1,this.2,aK,aG,cZ];rfl
 simp only[h27',h32];cases i.1==1 <;> cases i.1==3 <;> cases i.1==4 <;> cases i.1==18 <;> cases i.1==19 <;> try rfl
 all_goals (cases i.1==22 <;> cases i.1==34 <;> cases i.1==27 <;> cases i.1==28 <;> cases i.1==29 <;> cases i.1==30 <;> cases i.1==31 <;> cases i.1==32 <;> rfl)
theorem aRc (m:Im) (x:Mt) (r) (h:yD m x=some r):∃k,aJj k m x=some r:=by
 unfold yD at h;cases hp:jU m x <;> simp only[hp,aA,aB] at h
 ·cases h
 injection h with h
 subst h;have hp':=hp;simp only[aC,jU] at hp;obtain⟨hi,ha,hx⟩:=hp;obtain⟨⟨x1,_⟩,⟨x2,_⟩,_,⟨x4,_⟩,_⟩:=jW hx;refine⟨100,?_⟩;have key:aD (aCK m x) 100 ((0:Int),())=bif x.2.2.2.1.all (cL m x) then some (true,()) else some (false,()):=by
  refine gV (st:=fun k=>((k:Int),())) (p:=cL m x) (fun k i rec hk hlt=>?_) (fun rec=>?_) _ (by omega)
  ·rw[aCK];have hsi:yE m x i (m,())=some (cL m x i,()):=by unfold yE;simp[hp']
   simp only[dlt hlt,dge,aG,aA,aL,getD_some hk,aQ hlt (show x.2.2.2.1.length≤lenMax by simp only[lenMax];omega),hsi,aF];cases cL m x i <;> rfl
  ·rw[aCK];simp only[aU,aB]
 unfold aJj fD;rw[key,bV (by omega) (by omega),aDQ];have hs1:kM m [x.1,x.2.1]=(eC m x.1&&eC m x.2.1):=by simp[kM]
 have hs2:kM m [[x.2.2.1]]=fE x.2.2.1 (m.1.length:Int):=by simp[kM,eC]
 have hret:((x.2.2.1.1==5)&&((x.2.2.1.2.1==0)&&true))=(x.2.2.1==(5,0,())):=rH x.2.2.1 (5,0,());rw[hs1,hs2,hret];have hz:((x.2.2.2.1.length:Int)==0)=decide (x.2.2.2.1.length=0):=by
  by_cases hz:x.2.2.2.1.length=0
  ·simp[hz]
  ·have:¬((x.2.2.2.1.length:Int)=0):=by omega
   simp[hz]
 have h8:decide ((x.1.length:Int)+(x.2.1.length:Int)>8)= !decide (x.1.length+x.2.1.length≤8):=by
  by_cases h8:x.1.length+x.2.1.length≤8
  ·have:¬((x.1.length:Int)+(x.2.1.length:Int)>8):=by omega
   simp[h8,this]
  ·have:((x.1.length:Int)+(x.2.1.length:Int)>8):=by omega
   simp[h8,this]
 have hne:decide (x.2.2.2.1.length≠0)= !decide (x.2.2.2.1.length=0):=by by_cases h:x.2.2.2.1.length=0 <;> simp[h]
 rw[hz,h8,hne];cases eC m x.1 <;> cases eC m x.2.1 <;> cases x.2.2.1==(5,0,()) <;> cases fE x.2.2.1 (m.1.length:Int) <;> cases decide (x.2.2.2.1.length=0) <;> try rfl
 all_goals (cases decide (x.2.2.2.2.2.2.1.length=x.2.2.2.1.length) <;> cases decide (x.1.length+x.2.1.length≤8) <;> cases x.2.2.2.1.all (cL m x) <;> rfl)
theorem aRz (t:Tp):aJC t=some (sentry1 t,()):=by
 unfold aJC sentry1;rw[kZ]
theorem aRw (t:Tp) (f:Unit):aRy t f=some (yG t f,()):=rfl
theorem aRu (m:Im) (f:Int) (r) (h:aCL m f=some r):aJA m f=some r:=by
 injection h with h
 subst h;unfold aJA kA aAw;have ha:((aE m f).1.any fun t=>yG t ())= !(aE m f).1.all sentry1:=aCh sentry1 _;have hd:m.2.2.2.1.getD f.toNat zMt=aE m f:=rfl;rw[hd,ha];cases hs:sin f (m.2.2.2.1.length:Int)
 ·rfl
 ·have hr:0≤f∧f<(m.2.2.2.1.length:Int):=by simpa[sin] using hs
  simp only[hr.1,hr.2,aK,aG,aV,aA,aB,Bool.not_not];cases sentry1 (aE m f).2.2.1 <;> cases (aE m f).2.2.1.1==5 <;> cases (aE m f).1.all sentry1 <;> rfl
theorem aRD (m:Im) (_:aRF m):∃k,aJE k m=some (gA m,()):=by
 refine⟨100,?_⟩;unfold aJE gA;cases hi:bI m
 ·rfl
 have hf:=cH hi;have hall:kM m [m.2.1]=eC m m.2.1:=by simp[kM]
 rw[hall];simp only[aV,aB,aA];unfold kL;cases eC m m.2.1
 ·rfl
 simp only[aV,aB,cZ];have hent:=hf.entries;simp only[eG,aC,aO] at hent;have h8:=hf.classes;have h12:=hf.methods;have key1:aD (aCN m) 100 ((0:Int),())=bif m.2.2.2.2.1.all (kA m) then some ((0:Int),()) else some ((3:Int),()):=by
  refine gV (st:=fun k=>((k:Int),())) (p:=kA m) (fun k f rec hk hlt=>?_) (fun rec=>?_) _ (by omega)
  ·rw[aCN];simp only[dlt hlt,dge,aG,aA,aL,getD_some hk,aQ hlt (show m.2.2.2.2.1.length≤lenMax by simp only[lenMax];omega),aCL,aF];cases kA m f <;> rfl
  ·rw[aCN];simp only[aU,aB]
 have key3:aD (tO m 100) 100 ((0:Int),())=bif kG m then (bif m.2.2.2.1.all (fD m) then (bif m.2.2.2.2.1.all (kA m) then some ((0:Int),()) else some ((3:Int),())) else some ((3:Int),())) else some ((3:Int),()):=by
  cases hac:kG m with
  | false=>
   have:aD (tO m 100) 100 ((0:Int),())=bif (List.range m.1.length).all (fun k=>eN m (k:Int)) then aD (aA6 m 100) 100 ((0:Int),()) else some ((3:Int),()):=by
    refine aL6 (st:=fun k=>((k:Int),())) (q:=fun k=>eN m (k:Int)) (fun k rec hlt hh=>?_) (fun rec=>?_) _ (by omega)
    ·rw[tO];have hpc:jD m (k:Int)=true:=by
      simp only[jD,aC,aO];exact⟨hi,by omega,by omega,pV.2 fun j hj=>hh j (by omega)⟩
     have hsc:tM m (k:Int)=some (eN m (k:Int),()):=by unfold tM;rw[hpc];rfl
     simp only[dlt hlt,aA,hsc,aF,aQ hlt (show m.1.length≤lenMax by simp only[lenMax];omega)];cases eN m (k:Int) <;> rfl
    ·rw[tO];simp only[aU,aB]
   rw[this];have hac':(List.range m.1.length).all (fun k=>eN m (k:Int))=false:=hac;rw[hac'];rfl
  | true=>
   have:aD (tO m 100) 100 ((0:Int),())=bif (List.range m.1.length).all (fun k=>eN m (k:Int)) then aD (aA6 m 100) 100 ((0:Int),()) else some ((3:Int),()):=by
    refine aL6 (st:=fun k=>((k:Int),())) (q:=fun k=>eN m (k:Int)) (fun k rec hlt hh=>?_) (fun rec=>?_) _ (by omega)
    ·rw[tO];have hpc:jD m (k:Int)=true:=by
      simp only[jD,aC,aO];exact⟨hi,by omega,by omega,pV.2 fun j hj=>hh j (by omega)⟩
     have hsc:tM m (k:Int)=some (eN m (k:Int),()):=by unfold tM;rw[hpc];rfl
     simp only[dlt hlt,aA,hsc,aF,aQ hlt (show m.1.length≤lenMax by simp only[lenMax];omega)];cases eN m (k:Int) <;> rfl
    ·rw[tO];simp only[aU,aB]
   rw[this];have hac':(List.range m.1.length).all (fun k=>eN m (k:Int))=true:=hac;rw[hac'];simp only[aA];refine gV (st:=fun k=>((k:Int),())) (p:=fD m) (fun k x rec hk hlt=>?_) (fun rec=>?_) _ (by omega)
   ·rw[aA6];have hpm:jU m x=true:=by
     simp only[jU,aC];exact⟨hi,hac,hf.mts x (fR hk)⟩
    have hsm:yD m x=some (fD m x,()):=by unfold yD;rw[hpm];rfl
    simp only[dlt hlt,dge,aG,aA,aL,getD_some hk,hsm,aF,aQ hlt (show m.2.2.2.1.length≤lenMax by simp only[lenMax];omega)];cases fD m x <;> rfl
   ·rw[aA6];simp only[aU,aB];exact key1
 rw[key3];cases kG m <;> cases m.2.2.2.1.all (fD m) <;> cases m.2.2.2.2.1.all (kA m) <;> rfl
end Go.Pli
