/- Images: what the functions come to: what fits. -/
import Derived.Test.YtcofionghgmldaaGreatPliSp
import Derived.Test.YtcofionghgmldaaGreatPliInst
namespace Go.Pli
open Go Go.PM
theorem aSz (s:List Cl):aPt s=some (idL s,()):=by simp[aPt,idL]
theorem aQK (s:List Mt):aOZ s=some (idL s,()):=by simp[aOZ,idL]
theorem aSB (s:List Tp):aPp s=some (idL s,()):=by simp[aPp,idL]
theorem aQY (s:List Int):aOJ s=some (idL s,()):=by simp[aOJ,idL]
theorem aSw (s:List Ins):aPi s=some (idL s,()):=by simp[aPi,idL]
theorem aR4 (s:List Int):aOT s=some (idL s,()):=by simp[aOT,idL]
theorem aNx (n m:Int):aJB n m=some (bK n m,()):=by
 unfold aJB bK
 by_cases h:0≤n
 ·have:n≥0:=h
  simp[h]
 ·have:¬n≥0:=h
  simp[h]
theorem aTv (t:Tp):aSJ t=some (ityp t,()):=by
 unfold aSJ ityp
 cases bK t.1 5 <;> cases t.2.1==0 <;> cases t.1==3 <;> rfl
theorem aQH (t:Tp):aUM t=some (aCU t,()):=rfl
theorem yP {α:Type} (p:α→Bool) (l:List α):(l.any fun x=> !p x)= !l.all p:=by
 induction l with
 | nil=>rfl
 | cons x l ih=>simp[ih]
theorem aPH (l:List Tp) (m:Int):aLy l m=some (cP l m,()):=by
 unfold aLy cP kQ
 have:l.any aCU= !l.all ityp:=yP ityp l
 rw[this]
 cases decide ((l.length:Int)≤m) <;> simp
theorem aQJ (n m:Int):aVi n m=some (aAz n m,()):=rfl
theorem aRR (l:List Int) (c m:Int):aOK l c m=some (eM l c m,()):=by
 unfold aOK eM lY
 have:(l.any fun n=>aAz n m)= !l.all fun n=>bK n m:=yP (fun n=>bK n m) l
 simp only
 rw[this]
 cases decide ((l.length:Int)≤c) <;> simp
theorem aPE (x:Cl):aLF x=some (iclass x,()):=by
 unfold aLF iclass
 have h1:decide (x.1≥(-1:Int))=decide (-1≤x.1):=rfl
 rw[h1]
 cases decide (-1≤x.1) <;> cases decide (x.1<8) <;> cases cP x.2.1 8 <;> rfl
theorem aOx (x:Cl):aSU x=some (xW x,()):=rfl
theorem aPU (x:Mt):aTo x=some (xV x,()):=rfl
theorem dgt (a b:Int):decide (a>b)= !decide (a≤b):=by
 by_cases h:a≤b
 ·have:¬a>b:=by omega
  simp[h]
 ·have:a>b:=by omega
  simp[this]
theorem aRF (m:Im):aPm m=some (bD m,()):=by
 unfold aPm bD kN jN
 have h1:m.1.any xW= !m.1.all iclass:=yP iclass _
 have h2:m.2.2.2.1.any xV= !m.2.2.2.1.all imethod:=yP imethod _
 rw[h1,h2,dgt,dgt,dgt]
 cases decide ((m.1.length:Int)≤8) <;> cases cP m.2.1 8 <;> cases decide ((m.2.2.1.length:Int)≤16) <;> cases decide ((m.2.2.2.1.length:Int)≤12) <;> cases m.1.all iclass <;>
  cases m.2.2.2.1.all imethod <;> cases eM m.2.2.2.2.1 12 11 <;> cases bK m.2.2.2.2.2.1 4096 <;> rfl
theorem aN8 (x:Mt):∃k,aIA k x=some (imethod x,()):=by
 refine⟨x.2.2.2.1.length+1,?_⟩
 unfold aIA
 rw[dgt]
 by_cases hl:(x.2.2.2.1.length:Int)≤64
 ·have hl2:x.2.2.2.1.length≤lenMax:=by simp only[lenMax];omega
  have hfin:aA (vW x) (x.2.2.2.1.length+1) ((0:Int),())=bif x.2.2.2.1.all dO then
    (bif bK x.2.2.2.2.1 8 then (bif bK x.2.2.2.2.2.1 4096 then some (eM x.2.2.2.2.2.2.1 64 4096,()) else some (false,())) else some (false,())) else some (false,()):=by
   refine dB (st:=fun k=>((k:Int),())) (p:=dO) (fun k i rec hk hlt=>?_) (fun rec=>?_) _ (Nat.lt_succ_self _)
   ·unfold vW
    simp only[dlt hlt,dge,Bool.and_self,cond_true,Int.toNat_natCast,getD_some hk,aL hlt hl2]
    cases dO i <;> rfl
   ·unfold vW
    simp only[aW,cond_false]
  rw[hfin]
  unfold imethod
  simp only[hl,decide_true,Bool.not_true,cond_false]
  cases cP x.1 4 <;> cases cP x.2.1 8 <;> cases ityp x.2.2.1 <;> cases x.2.2.2.1.all dO <;> cases bK x.2.2.2.2.1 8 <;> cases bK x.2.2.2.2.2.1 4096 <;> rfl
 ·unfold imethod
  simp only[hl,decide_false,Bool.not_false,cond_true]
  cases cP x.1 4 <;> cases cP x.2.1 8 <;> cases ityp x.2.2.1 <;> rfl
theorem aHU (l:List Cl) (c:Unit) (h:aH0 l c):∃k,aKX k l c=some (tF l c,()):=by
 refine⟨l.length+1,iZ (st:=fun k=>((k:Int),())) (fun k x rec hk hlt=>?_) (fun rec=>?_) _ (Nat.lt_succ_self _)⟩
 ·unfold vE
  simp only[dlt hlt,dge,Bool.and_self,cond_true,Int.toNat_natCast,getD_some hk,aL hlt h.1.1]
 ·unfold vE
  simp only[aW,cond_false]
theorem aD9 (l:List Cl) (c:Unit) (_:aD8 l c):zC l c=some (kN l c,()):=by
 unfold zC tF kN
 rw[gY]
theorem aGu (l:List Mt) (c:Unit) (h:aGv l c):∃k,aIl k l c=some (rB l c,()):=by
 refine⟨l.length+1,iZ (st:=fun k=>((k:Int),())) (fun k x rec hk hlt=>?_) (fun rec=>?_) _ (Nat.lt_succ_self _)⟩
 ·unfold sI
  simp only[dlt hlt,dge,Bool.and_self,cond_true,Int.toNat_natCast,getD_some hk,aL hlt h.1.1]
 ·unfold sI
  simp only[aW,cond_false]
theorem aC2 (l:List Mt) (c:Unit) (_:aC1 l c):wR l c=some (jN l c,()):=by
 unfold wR rB jN
 rw[gY]
theorem aHX (l:List Tp) (c:Unit) (h:aH1 l c):∃k,aKv k l c=some (sV l c,()):=by
 refine⟨l.length+1,iZ (st:=fun k=>((k:Int),())) (fun k x rec hk hlt=>?_) (fun rec=>?_) _ (Nat.lt_succ_self _)⟩
 ·unfold uN
  simp only[dlt hlt,dge,Bool.and_self,cond_true,Int.toNat_natCast,getD_some hk,aL hlt h.1.1]
 ·unfold uN
  simp only[aW,cond_false]
theorem aDR (l:List Tp) (c:Unit) (_:aD4 l c):yX l c=some (kQ l c,()):=by
 unfold yX sV kQ
 rw[gY]
theorem aHW (l:List Tp) (c:Unit×Unit) (h:aHO l c):∃k,aKV k l c=some (tJ l c,()):=by
 refine⟨l.length+1,iZ (st:=fun k=>((k:Int),())) (fun k x rec hk hlt=>?_) (fun rec=>?_) _ (Nat.lt_succ_self _)⟩
 ·unfold vK
  simp only[dlt hlt,dge,Bool.and_self,cond_true,Int.toNat_natCast,getD_some hk,aL hlt h.1.1]
 ·unfold vK
  simp only[aW,cond_false]
theorem aDK (l:List Tp) (c:Unit×Unit) (_:aEq l c):yO l c=some (iS l c,()):=by
 unfold yO tJ iS
 rw[gY]
theorem aJZ (l:List Int) (c:Int×Unit) (h:aJc l c):∃k,aNN k l c=some (wA l c,()):=by
 refine⟨l.length+1,iZ (st:=fun k=>((k:Int),())) (p:=fun n=>aAz n c.1) (fun k x rec hk hlt=>?_) (fun rec=>?_) _ (Nat.lt_succ_self _)⟩
 ·unfold xD
  simp only[dlt hlt,dge,Bool.and_self,cond_true,Int.toNat_natCast,getD_some hk,aL hlt h.1.1]
 ·unfold xD
  simp only[aW,cond_false]
theorem aFC (l:List Int) (c:Int×Unit) (_:aFN l c):aA5 l c=some (lY l c,()):=by
 unfold aA5 wA lY
 rw[gY]
theorem aTC (n a b:Int):aSH n a b=some (mW n a b,()):=by
 unfold aSH mW
 have h1:decide (n≥a)=decide (a≤n):=rfl
 rw[h1]
 cases decide (a≤n) <;> rfl
theorem aQI (t:Tp):aQg t=some (wP t,()):=by
 unfold aQg wP ityp mW bK
 cases decide (0≤t.1)&&decide (t.1≤5) <;> cases t.2.1==0 <;> cases t.1==3 <;> rfl
theorem aO6 (l:List Int) (c m:Int) (h:aPT l c m):∃k,aMn k l c m=some (pI l c m,()):=by
 refine⟨l.length+1,?_⟩
 have key:aA (aAk l m) (l.length+1) ((0:Int),())=bif l.all (fun n=>bK n m) then some (true,()) else some (false,()):=by
  refine dB (st:=fun k=>((k:Int),())) (p:=fun n=>bK n m) (fun k x rec hk hlt=>?_) (fun rec=>?_) _ (Nat.lt_succ_self _)
  ·unfold aAk
   simp only[dlt hlt,dge,Bool.and_self,cond_true,Int.toNat_natCast,getD_some hk,aL hlt h.1.1]
   unfold mW bK
   cases decide (0≤x)&&decide (x≤m) <;> rfl
  ·unfold aAk
   simp only[aW,cond_false]
 unfold aMn
 rw[key,dgt]
 unfold pI eM
 cases decide ((l.length:Int)≤c) <;> simp
 cases l.all fun n=>bK n m <;> rfl
theorem aNf (l:List Tp) (c:Int) (h:aNo l c):∃k,aI3 k l c=some (jP l c,()):=by
 refine⟨l.length+1,?_⟩
 have key:aA (wW l) (l.length+1) ((0:Int),())=bif l.all ityp then some (true,()) else some (false,()):=by
  refine dB (st:=fun k=>((k:Int),())) (p:=ityp) (fun k x rec hk hlt=>?_) (fun rec=>?_) _ (Nat.lt_succ_self _)
  ·unfold wW
   simp only[dlt hlt,dge,Bool.and_self,cond_true,Int.toNat_natCast,getD_some hk,aL hlt h.1.1]
   unfold wP
   cases ityp x <;> rfl
  ·unfold wW
   simp only[aW,cond_false]
 unfold aI3
 rw[key,dgt]
 unfold jP cP
 cases decide ((l.length:Int)≤c) <;> simp
 cases l.all ityp <;> rfl
theorem aQw (m:Im) (_:aP4 m):∃k,aMc k m=some (rN m,()):=by
 refine⟨100,?_⟩
 unfold aMc
 rw[dgt,dgt,dgt]
 by_cases h1:(m.1.length:Int)≤8
 ·by_cases h3:(m.2.2.2.1.length:Int)≤12
  ·have key2:aA (aAJ m 100) 100 ((0:Int),())=bif m.2.2.2.1.all imethod then some (true,()) else some (false,()):=by
    refine dB (st:=fun k=>((k:Int),())) (p:=imethod) (fun k x rec hk hlt=>?_) (fun rec=>?_) _ (by omega)
    ·unfold aAJ
     simp only[dlt hlt,dge,Bool.and_self,cond_true,Int.toNat_natCast,getD_some hk]
     rw[dgt]
     by_cases hc:(x.2.2.2.1.length:Int)≤64
     ·have inner:aA (zX m ((k:Int),()) rec) 100 ((0:Int),())=bif x.2.2.2.1.all dO then rec (((k+1:Nat):Int),()) else some (false,()):=by
       refine dB (st:=fun k=>((k:Int),())) (p:=dO) (fun j i rec2 hj hlj=>?_) (fun rec2=>?_) _ (by omega)
       ·unfold zX
        simp only[Int.toNat_natCast,getD_some hk,dlt hlj,dge,Bool.and_self,cond_true,getD_some hj,aL hlj (show x.2.2.2.1.length≤lenMax by simp only[lenMax];omega)]
        unfold aBw
        cases dO i <;> rfl
       ·unfold zX
        simp only[Int.toNat_natCast,getD_some hk,aW,cond_false,aL hlt (show m.2.2.2.1.length≤lenMax by simp only[lenMax];omega)]
      rw[inner]
      unfold imethod jP wP mW pI bK
      simp only[hc,decide_true,Bool.true_and,Bool.not_true,cond_false]
      cases cP x.1 4 <;> cases cP x.2.1 8 <;> cases ityp x.2.2.1 <;> cases x.2.2.2.1.all dO <;> cases decide (0≤x.2.2.2.2.1)&&decide (x.2.2.2.2.1≤8) <;>
       cases decide (0≤x.2.2.2.2.2.1)&&decide (x.2.2.2.2.2.1≤4096) <;> cases eM x.2.2.2.2.2.2.1 64 4096 <;> rfl
     ·unfold imethod jP wP
      simp only[hc,decide_false,Bool.false_and,Bool.not_false,cond_true]
      cases cP x.1 4 <;> cases cP x.2.1 8 <;> cases ityp x.2.2.1 <;> rfl
    ·unfold aAJ
     simp only[aW,cond_false]
   have key1:aA (aAE m 100) 100 ((0:Int),())=bif m.1.all iclass then (bif m.2.2.2.1.all imethod then some (true,()) else some (false,())) else some (false,()):=by
    refine dB (st:=fun k=>((k:Int),())) (p:=iclass) (fun k x rec hk hlt=>?_) (fun rec=>?_) _ (by omega)
    ·unfold aAE
     simp only[dlt hlt,dge,Bool.and_self,cond_true,Int.toNat_natCast,getD_some hk,aL hlt (show m.1.length≤lenMax by simp only[lenMax];omega)]
     have h7:decide (x.1≤7)=decide (x.1<8):=by by_cases h:x.1<8 <;> simp[h] <;> omega
     unfold iclass mW jP pI
     rw[h7]
     cases decide (-1≤x.1) <;> cases decide (x.1<8) <;> cases cP x.2.1 8 <;> cases eM x.2.2.1 4 11 <;> rfl
    ·unfold aAE
     simp only[aW,cond_false]
     exact key2
   rw[key1]
   unfold rN bD jP pI mW bK
   simp only[h1,h3,decide_true,Bool.not_true,cond_false,Bool.true_and]
   cases cP m.2.1 8 <;> cases decide ((m.2.2.1.length:Int)≤16) <;> cases m.1.all iclass <;> cases m.2.2.2.1.all imethod <;> cases eM m.2.2.2.2.1 12 11 <;>
    cases decide (0≤m.2.2.2.2.2.1)&&decide (m.2.2.2.2.2.1≤4096) <;> cases decide (0≤m.2.2.2.2.2.2.1)&&decide (m.2.2.2.2.2.2.1≤4096) <;> rfl
  ·unfold rN bD
   simp only[h1,h3,decide_true,decide_false,Bool.not_true,Bool.not_false,cond_true,cond_false,Bool.false_and,Bool.and_false]
   cases decide ((m.2.2.1.length:Int)≤16) <;> rfl
 ·unfold rN bD
  simp only[h1,decide_false,Bool.not_false,cond_true,Bool.false_and]
end Go.Pli

namespace Go.Pli
open Go Go.PM
theorem rX (x y:Tp):((x.1==y.1)&&((x.2.1==y.2.1)&&true))=(x==y):=by
 obtain⟨a,b,u⟩:=x;obtain⟨c,d,v⟩:=y;rfl
theorem aFo {α:Type} [BEq α]:∀(a b:List α),a.length=b.length→(a.zip b).all (fun q=>q.1==q.2)=(a==b)
 | [],[],_=>rfl
 | [],_::_,h=>by simp at h
 | _::_,[],h=>by simp at h
 | x::a,y::b,h=>by
  have ih:=aFo a b (by simpa using h)
  simp only[List.zip_cons_cons,List.all_cons,ih]
  rfl
theorem aRh {α σ R:Type} [BEq α] {L:σ→(σ→Option R)→Option R} {a b:List α} {st:Nat→σ} {ex fin:Option R} (hl:a.length=b.length)
  (h1:∀(k:Nat) (x y:α) (rec),a[k]? =some x→b[k]? =some y→k<a.length→k<b.length→L (st k) rec=bif x==y then rec (st (k+1)) else ex)
  (h2:∀rec,L (st a.length) rec=fin):∀F:Nat,a.length<F→aA L F (st 0)=bif a==b then fin else ex:=by
 intro F hF
 have hz:(a.zip b).length=a.length:=by rw[List.length_zip];omega
 rw[←aFo a b hl]
 refine dB (xs:=a.zip b) (p:=fun q=>q.1==q.2) (fun k q rec hk hlt=>?_) (fun rec=>by rw[hz];exact h2 rec) F (by omega)
 have hka:k<a.length:=by omega
 have hkb:k<b.length:=by omega
 rw[List.getElem?_eq_getElem hlt] at hk
 injection hk with hk
 subst hk
 rw[List.getElem_zip]
 exact h1 k _ _ rec (List.getElem?_eq_getElem hka) (List.getElem?_eq_getElem hkb) hka hkb
theorem aT4 {α:Type} [BEq α] {a b:List α} (h:a.length≠b.length):(a==b)=false:=by
 induction a generalizing b with
 | nil=>cases b with
  | nil=>simp at h
  | cons=>rfl
 | cons x a ih=>cases b with
  | nil=>rfl
  | cons y b=>
   have:=ih (b:=b) (by simpa using h)
   show (x==y&&a==b)=false
   rw[this];simp
theorem aGy (a b:Nat):((a:Int) !=(b:Int))= !decide (a=b):=by
 by_cases h:a=b
 ·subst h;simp
 ·have:¬((a:Int)=(b:Int)):=by omega
  simp[h,this]
theorem aQi (a b:List Tp) (h:aVe a b):∃k,aU7 k a b=some (eqL a b,()):=by
 refine⟨a.length+1,?_⟩
 unfold aU7
 rw[aGy]
 by_cases hl:a.length=b.length
 ·have key:aA (aIe a b) (a.length+1) ((0:Int),())=bif a==b then some (true,()) else some (false,()):=by
   refine aRh (st:=fun k=>((k:Int),())) hl (fun k x y rec hx hy hka hkb=>?_) (fun rec=>?_) _ (Nat.lt_succ_self _)
   ·unfold aIe
    simp only[dlt hka,dlt hkb,dge,Bool.and_self,cond_true,Int.toNat_natCast,getD_some hx,getD_some hy,aL hka h.1.1,rX]
    cases x==y <;> rfl
   ·unfold aIe
    simp only[aW,cond_false]
  rw[key]
  unfold eqL
  simp only[hl,decide_true,Bool.not_true,cond_false]
  cases a==b <;> rfl
 ·unfold eqL
  rw[aT4 hl]
  simp[hl]
theorem aOp (a b:List Tp) (h:aQr a b):∃k,aTj k a b=some (rW a b,()):=aQi a b h
theorem aR7 (t:Tp) (n:Int):aP0 t n=some (dV t n,()):=by
 unfold aP0 dV
 have h:decide (t.2.1≥0)=decide (0≤t.2.1):=rfl
 rw[h]
 cases t.1==1 <;> cases t.1==2 <;> cases t.1==3 <;> cases decide (0≤t.2.1) <;> rfl
theorem aSl (t:Tp) (n:Int):aPj t n=some (aAB t n,()):=by
 unfold aPj aAB dV
 have h:decide (t.2.1≥0)=decide (0≤t.2.1):=rfl
 rw[h]
 by_cases h1:t.1=1
 ·have h3:(t.1==3)=false:=by rw[h1];rfl
  have h1':(t.1==1)=true:=by rw[h1];rfl
  rw[h1',h3]
  cases t.2.1==0 <;> rfl
 ·have h1':(t.1==1)=false:=by simpa using h1
  rw[h1']
  by_cases h2:t.1=2
  ·have h3:(t.1==3)=false:=by rw[h2];rfl
   have h2':(t.1==2)=true:=by rw[h2];rfl
   rw[h2',h3]
   cases t.2.1==0 <;> rfl
  ·have h2':(t.1==2)=false:=by simpa using h2
   rw[h2']
   cases t.1==3 <;> cases decide (0≤t.2.1) <;> rfl
theorem aOO (t:Tp):aLR t=some (gO t,()):=by
 unfold aLR gO
 cases t.1==2 <;> cases t.1==3 <;> rfl
theorem aPc (t:Tp):aMj t=some (vD t,()):=by
 unfold aMj vD gO
 cases t.1==2 <;> cases t.1==3 <;> rfl
theorem aU6 (l:List Cl) (c:Int):aUG l c=some (kup l c,()):=by
 unfold aUG kup bX
 by_cases h1:c<0
 ·simp[h1]
 ·by_cases h2:c≥(l.length:Int)
  ·simp[h1,h2]
  ·have h3:0≤c:=by omega
   have h4:c<(l.length:Int):=by omega
   simp only[h1,h2,h3,h4,decide_true,decide_false,Bool.and_self,cond_true,cond_false,Bool.false_or]
   cases decide ((l.getD c.toNat zCl).1≥c) <;> rfl
theorem jQ {l:List Cl} {c:Int} (h:0≤c):kup l c<c:=by
 unfold kup
 by_cases h1:decide (c<0) || (decide (c≥(l.length:Int)) || decide (bX l c≥c))
 ·simp[h1];omega
 ·simp only[Bool.not_eq_true] at h1
  rw[h1]
  simp only[Bool.or_eq_false_iff,decide_eq_false_iff_not] at h1
  simp only[cond_false]
  omega
theorem oR {l:List Cl} {c:Int} (h:c<0):∀n,sB l n c=[]
 | 0=>rfl
 | n+1=>by simp[sB,h]
theorem aDm {l:List Cl}:∀(n m:Nat) (c:Int),c.toNat<n→c.toNat<m→sB l n c=sB l m c
 | 0,_,_,h,_=>by omega
 | _+1,0,_,_,h=>by omega
 | n+1,m+1,c,h1,h2=>by
  simp only[sB]
  by_cases hc:c<0
  ·simp[hc]
  ·have:=jQ (l:=l) (c:=c) (by omega)
   simp only[hc,decide_false,cond_false]
   by_cases hk:kup l c<0
   ·rw[oR hk,oR hk]
   ·rw[aDm n m (kup l c) (by omega) (by omega)]
theorem bP {l:List Cl} {c:Int} (h:c<0):bQ l c=[]:=oR h _
theorem cE {l:List Cl} {c:Int} (h:0≤c):bQ l c=c::bQ l (kup l c):=by
 have h0:¬c<0:=by omega
 have:=jQ (l:=l) h
 unfold bQ
 rw[sB]
 simp only[h0,decide_false,cond_false]
 by_cases hk:kup l c<0
 ·rw[oR hk,oR hk]
 ·rw[aDm c.toNat ((kup l c).toNat+1) (kup l c) (by omega) (by omega)]
theorem aEt (l:List Cl) (b:Int):∀(n:Nat) (c:Int),c.toNat<n→aA (zH l b) (n+1) (c,())=some ((bQ l c).contains b,())
 | 0,_,h=>by omega
 | n+1,c,h=>by
  rw[aD,zH]
  by_cases hc:c<0
  ·have h0:¬c≥0:=by omega
   rw[bP hc]
   simp only[h0,decide_false,cond_false]
   rfl
  ·have h0:c≥0:=by omega
   have hlt:=jQ (l:=l) (c:=c) (by omega)
   rw[cE (by omega)]
   simp only[h0,decide_true,cond_true,List.contains_cons]
   by_cases hb:c=b
   ·subst hb;simp
   ·have e1:(c==b)=false:=by simpa using hb
    have e2:(b==c)=false:=by simpa using fun h=>hb h.symm
    rw[e1,e2]
    simp only[cond_false,Bool.false_or]
    by_cases hk:kup l c<0
    ·rw[bP hk,aD,zH]
     have:¬kup l c≥0:=by omega
     simp only[this,decide_false,cond_false]
     rfl
    ·exact aEt l b n (kup l c) (by omega)
theorem aQk (l:List Cl) (a b:Int):∃k,aLz k l a b=some (bY l a b,()):=by
 refine⟨a.toNat+1+1,?_⟩
 unfold aLz bY
 rw[aEt l b (a.toNat+1) a (by omega)]
 by_cases h1:b<0
 ·have:¬0≤b:=by omega
  simp[h1,this]
 ·have h1':0≤b:=by omega
  by_cases h2:b≥(l.length:Int)
  ·have:¬b<(l.length:Int):=by omega
   simp[h1,h2,this]
  ·have h2':b<(l.length:Int):=by omega
   by_cases h3:a≥(l.length:Int)
   ·have:¬a<(l.length:Int):=by omega
    simp[h1,h2,h3,this]
   ·have h3':a<(l.length:Int):=by omega
    simp only[h1,h2,h3,h1',h2',h3',decide_true,decide_false,cond_false,Bool.true_and]
theorem aTN (l:List Cl) (a b:Tp):aSS l a b=some (cO l a b,()):=by
 unfold aSS cO
 rw[rX]
 cases a.1==4 <;> cases a.1==3 <;> cases b.1==3 <;> cases a==b <;> cases a.1==1 <;> rfl
theorem mD (l:List Cl):∀(n:Nat) (c:Int),c.toNat<n→(bQ l c).length≤n
 | 0,_,h=>by omega
 | n+1,c,h=>by
  by_cases hc:c<0
  ·rw[bP hc];simp
  ·rw[cE (by omega),List.length_cons]
   have hlt:=jQ (l:=l) (c:=c) (by omega)
   by_cases hk:kup l c<0
   ·rw[bP hk];simp
   ·have:=mD l n (kup l c) (by omega)
    omega
theorem fC {α:Type} {l:List α} (h:okL l=true):l.length<1000000:=by simpa[okL] using h
theorem aFE (l:List Cl) (hl:l.length<1000000):∀(n:Nat) (c:Int) (out:List Int),c.toNat<n→c<(l.length:Int)→out.length+n<3000000→
  aA (pW l) (n+1) (c,out,())=some (out++bQ l c,())
 | 0,_,_,h,_,_=>by omega
 | n+1,c,out,h,hcl,ho=>by
  rw[aD,pW]
  by_cases hc:c<0
  ·have h0:¬c≥0:=by omega
   rw[bP hc]
   simp[h0]
  ·have h0:c≥0:=by omega
   have h0':0≤c:=by omega
   have hlt:=jQ (l:=l) (c:=c) (by omega)
   have hroom:out.length+[c].length<rowMax:=by simp[rowMax];omega
   rw[cE (by omega)]
   have hk:kup l c=bif decide ((l.getD c.toNat zCl).1≥c) then -1 else (l.getD c.toNat zCl).1:=by
    have e1:¬c≥(l.length:Int):=by omega
    unfold kup bX
    simp only[hc,e1,decide_false,Bool.false_or]
   simp only[h0,hcl,hroom,decide_true,Bool.and_self,cond_true]
   have fin:aA (pW l) (n+1) (kup l c,out++[c],())=some (out++(c::bQ l (kup l c)),()):=by
    by_cases hk:kup l c<0
    ·rw[aD]
     unfold pW
     have:¬kup l c≥0:=by omega
     rw[bP hk]
     simp[this]
    ·rw[aFE l hl n (kup l c) (out++[c]) (by omega) (by omega) (by simp;omega)]
     simp
   rw[hk] at fin⊢
   cases hd:decide ((l.getD c.toNat zCl).1≥c)
   ·rw[hd] at fin;simpa using fin
   ·rw[hd] at fin;simpa using fin
theorem aQb (l:List Cl) (c:Int) (r) (h:jA l c=some r):∃k,aLG k l c=some r:=by
 unfold jA at h
 cases hl:okL l <;> simp only[hl,cond_true,cond_false] at h
 ·cases h
 injection h with h
 subst h
 have hlt:=fC hl
 refine⟨c.toNat+1+1,?_⟩
 unfold aLG aY
 by_cases hc:c<(l.length:Int)
 ·rw[aFE l hlt (c.toNat+1) c [] (by omega) hc (by simp;omega)]
  simp[hc]
 ·rw[aD,pW]
  have h0:c≥0:=by omega
  simp[h0,hc]
theorem aS8 (l:List Cl) (a b:Tp) (r) (h:uW l a b=some r):aSP l a b=some r:=by
 unfold uW at h
 cases hl:okL l <;> simp only[hl,cond_true,cond_false] at h
 ·cases h
 injection h with h
 subst h
 have hlt:=fC hl
 unfold aSP aCB jA
 rw[rX]
 have hlen:(aY l a.2.1).length<9223372036854775807:=by
  unfold aY
  by_cases hc:a.2.1<(l.length:Int)
  ·have:=mD l (a.2.1.toNat+1) a.2.1 (by omega)
   simp only[hc,decide_true,cond_true]
   omega
  ·simp[hc]
 have hrin:rin (aY l a.2.1) b.2.1=some ((aY l a.2.1).contains b.2.1,()):=by
  unfold rin
  rw[decide_eq_true hlen];rfl
 simp only[hl,cond_true,Option.bind_some,hrin,vD]
 by_cases h1:a.1=1
 ·have e3:(a.1==3)=false:=by rw[h1];rfl
  have e1:(a.1==1)=true:=by rw[h1];rfl
  rw[e1,e3]
  cases a.1==4 <;> cases a==b <;> rfl
 ·have e1:(a.1==1)=false:=by simpa using h1
  rw[e1]
  cases a.1==4 <;> cases a.1==3 <;> cases b.1==3 <;> cases a.1==2 <;> cases a==b <;> rfl
end Go.Pli

namespace Go.Pli
open Go Go.PM
theorem oJ {α:Type} {p:Nat→α→Bool}:∀(l:List α) (k:Nat),lG p k l=true↔∀(j:Nat) x,l[j]? =some x→p (k+j) x=true
 | [],k=>by simp[lG]
 | x::l,k=>by
  simp only[lG,Bool.and_eq_true]
  rw[oJ l (k+1)]
  constructor
  ·intro⟨h1,h2⟩ j y hy
   cases j with
   | zero=>simp at hy;subst hy;simpa using h1
   | succ j=>
    have:=h2 j y (by simpa using hy)
    rwa [Nat.add_assoc,Nat.add_comm 1 j] at this
  ·intro h
   refine⟨by simpa using h 0 x rfl,fun j y hy=>?_⟩
   have:=h (j+1) y (by simpa using hy)
   rwa [Nat.add_assoc,Nat.add_comm 1 j]
theorem oM {α σ R:Type} {L:σ→(σ→Option R)→Option R} {xs:List α} {st:Nat→σ} {p:Nat→α→Bool} {ex fin:Option R}
  (h1:∀(k:Nat) (x:α) (rec),xs[k]? =some x→k<xs.length→L (st k) rec=bif p k x then rec (st (k+1)) else ex)
  (h2:∀rec,L (st xs.length) rec=fin):∀F:Nat,xs.length<F→aA L F (st 0)=bif lG p 0 xs then fin else ex:=by
 have key:∀(l pre:List α) (F:Nat),xs=pre++l→l.length<F→aA L F (st pre.length)=bif lG p pre.length l then fin else ex:=by
  intro l
  induction l with
  | nil=>
   intro pre F hx hF
   obtain⟨F,rfl⟩:∃n,F=n+1:=⟨F - 1,by simp at hF;omega⟩
   rw[List.append_nil] at hx
   subst hx
   rw[aD,h2]
   rfl
  | cons x l ih=>
   intro pre F hx hF
   obtain⟨F,rfl⟩:∃n,F=n+1:=⟨F - 1,by simp at hF;omega⟩
   have hk:xs[pre.length]? =some x:=by rw[hx];simp
   have hl:pre.length<xs.length:=by rw[hx];simp
   rw[aD,h1 pre.length x _ hk hl]
   have:=ih (pre++[x]) F (by rw[hx];simp) (by simp only[List.length_cons] at hF;omega)
   simp only[List.length_append,List.length_cons,List.length_nil,Nat.zero_add] at this
   rw[this]
   simp only[lG]
   cases p pre.length x <;> rfl
 intro F hF
 exact key xs [] F rfl hF
theorem hZ {q:Nat→Bool} {n:Nat}:(List.range n).all q=true↔∀k,k<n→q k=true:=by
 simp[List.all_eq_true]
theorem aHl {σ R:Type} {L:σ→(σ→Option R)→Option R} {N:Nat} {st:Nat→σ} {q:Nat→Bool} {ex fin:Option R}
  (h1:∀(k:Nat) (rec),k<N→(∀j,j<k→q j=true)→L (st k) rec=bif q k then rec (st (k+1)) else ex)
  (h2:∀rec,L (st N) rec=fin):∀F:Nat,N<F→aA L F (st 0)=bif (List.range N).all q then fin else ex:=by
 have key:∀(d k F:Nat),k+d=N→d<F→(∀j,j<k→q j=true)→aA L F (st k)=bif (List.range N).all q then fin else ex:=by
  intro d
  induction d with
  | zero=>
   intro k F hk hF hh
   obtain⟨F,rfl⟩:∃n,F=n+1:=⟨F - 1,by omega⟩
   have:k=N:=by omega
   subst this
   rw[aD,h2,hZ.2 hh]
   rfl
  | succ d ih=>
   intro k F hk hF hh
   obtain⟨F,rfl⟩:∃n,F=n+1:=⟨F - 1,by omega⟩
   rw[aD,h1 k _ (by omega) hh]
   cases hq:q k with
   | true=>
    simp only[cond_true]
    refine ih (k+1) F (by omega) (by omega) fun j hj=>?_
    rcases Nat.lt_or_ge j k with h | h
    ·exact hh j h
    ·have:j=k:=by omega
     subst this;exact hq
   | false=>
    have:(List.range N).all q=false:=by
     cases ha:(List.range N).all q with
     | false=>rfl
     | true=>rw[hZ.1 ha k (by omega)] at hq;cases hq
    rw[this]
    rfl
 intro F hF
 exact key N 0 F (by omega) hF fun j hj=>by omega
theorem aCA {R:Type} {L:Bool×Int×Unit→(Bool×Int×Unit→Option R)→Option R} {N:Nat} {q:Nat→Bool} {fin:Bool→Option R}
  (h1:∀(k:Nat) (rec),k<N→(∀j,j<k→q j=true)→L (true,(k:Int),()) rec=rec (q k,((k+1:Nat):Int),())∨(q k=false∧L (true,(k:Int),()) rec=fin false))
  (h0:∀(k:Nat) rec,k≤N→L (false,(k:Int),()) rec=fin false) (h2:∀rec,L (true,(N:Int),()) rec=fin true):
  ∀(F:Nat) (b:Bool),N+1<F→aA L F (b,((0:Nat):Int),())=fin (b&&(List.range N).all q):=by
 have hf:∀(F k:Nat),0<F→k≤N→aA L F (false,(k:Int),())=fin false:=fun F k hF hk=>by
  obtain⟨F,rfl⟩:∃n,F=n+1:=⟨F - 1,by omega⟩
  rw[aD,h0 k _ hk]
 have key:∀(d k F:Nat),k+d=N→d+1<F→(∀j,j<k→q j=true)→aA L F (true,(k:Int),())=fin ((List.range N).all q):=by
  intro d
  induction d with
  | zero=>
   intro k F hk hF hh
   obtain⟨F,rfl⟩:∃n,F=n+1:=⟨F - 1,by omega⟩
   have:k=N:=by omega
   subst this
   rw[aD,h2,hZ.2 hh]
  | succ d ih=>
   intro k F hk hF hh
   obtain⟨F,rfl⟩:∃n,F=n+1:=⟨F - 1,by omega⟩
   rw[aD]
   cases hq:q k with
   | true=>
    rcases h1 k (aA L F) (by omega) hh with h | ⟨h,_⟩
    ·rw[h,hq]
     refine ih (k+1) F (by omega) (by omega) fun j hj=>?_
     rcases Nat.lt_or_ge j k with h | h
     ·exact hh j h
     ·have:j=k:=by omega
      subst this;exact hq
    ·rw[hq] at h;cases h
   | false=>
    have:(List.range N).all q=false:=by
     cases ha:(List.range N).all q with
     | false=>rfl
     | true=>rw[hZ.1 ha k (by omega)] at hq;cases hq
    rw[this]
    rcases h1 k (aA L F) (by omega) hh with h | ⟨_,h⟩
    ·rw[h,hq]
     exact hf F (k+1) (by omega) (by omega)
    ·exact h
 intro F b hF
 cases b with
 | true=>simpa using key N 0 F (by omega) hF fun j hj=>by omega
 | false=>simpa using hf F 0 (by omega) (by omega)
structure Fit (m:Im):Prop where
 classes:m.1.length≤8
 statics:cP m.2.1 8=true
 ints:m.2.2.1.length≤16
 methods:m.2.2.2.1.length≤12
 cls:∀c∈m.1,iclass c=true
 mts:∀x∈m.2.2.2.1,imethod x=true
 entries:eM m.2.2.2.2.1 12 11=true
 stack:bK m.2.2.2.2.2.1 4096=true
 heap:bK m.2.2.2.2.2.2.1 4096=true
theorem bC {m:Im} (h:bD m=true):Fit m:=by
 simp only[bD,Bool.and_eq_true,decide_eq_true_eq,List.all_eq_true] at h
 obtain⟨h1,h2,h3,h4,h5,h6,h7,h8,h9⟩:=h
 exact⟨by omega,h2,by omega,by omega,h5,h6,h7,h8,h9⟩
theorem sF {c:Cl} (h:iclass c=true):(-1≤c.1∧c.1<8)∧(c.2.1.length≤8∧∀t∈c.2.1,ityp t=true)∧(c.2.2.1.length≤4∧∀n∈c.2.2.1,0≤n∧n≤11):=by
 simp only[iclass,cP,eM,bK,Bool.and_eq_true,decide_eq_true_eq,List.all_eq_true] at h
 obtain⟨h1,h2,⟨h3,h4⟩,h5,h6⟩:=h
 exact⟨⟨h1,h2⟩,⟨by omega,h4⟩,⟨by omega,h6⟩⟩
theorem jU {x:Mt} (h:imethod x=true):(x.1.length≤4∧∀t∈x.1,ityp t=true)∧(x.2.1.length≤8∧∀t∈x.2.1,ityp t=true)∧ityp x.2.2.1=true∧(x.2.2.2.1.length≤64∧∀i∈x.2.2.2.1,dO i=true)∧
  (0≤x.2.2.2.2.1∧x.2.2.2.2.1≤8)∧(0≤x.2.2.2.2.2.1∧x.2.2.2.2.2.1≤4096)∧(x.2.2.2.2.2.2.1.length≤64∧∀n∈x.2.2.2.2.2.2.1,0≤n∧n≤4096):=by
 simp only[imethod,cP,eM,bK,Bool.and_eq_true,decide_eq_true_eq,List.all_eq_true] at h
 obtain⟨⟨h1,h2⟩,⟨h3,h4⟩,h5,h6,h7,h8,h9,h10,h11⟩:=h
 exact⟨⟨by omega,h2⟩,⟨by omega,h4⟩,h5,⟨by omega,h7⟩,h8,h9,⟨by omega,h11⟩⟩
theorem nU {m:Im} {c:Int} (h0:0≤c) (h1:c<(m.1.length:Int)):bG m c∈m.1:=by
 have h:c.toNat<m.1.length:=by omega
 unfold bG
 rw[getD_some (List.getElem?_eq_getElem h)]
 exact List.getElem_mem h
theorem jF {m:Im} {f:Int} (h0:0≤f) (h1:f<(m.2.2.2.1.length:Int)):aC m f∈m.2.2.2.1:=by
 have h:f.toNat<m.2.2.2.1.length:=by omega
 unfold aC
 rw[getD_some (List.getElem?_eq_getElem h)]
 exact List.getElem_mem h
theorem aGf {m:Im} {c:Int} (h:lM m c=true):Fit m∧0≤c∧c<(m.1.length:Int)∧∀k:Nat,(k:Int)<c→cN m (k:Int)=true:=by
 simp only[lM,Bool.and_eq_true,decide_eq_true_eq] at h
 obtain⟨h1,h2,h3,h4⟩:=h
 exact⟨bC h1,h2,h3,fun k hk=>hZ.1 h4 k (by omega)⟩
theorem mS {m:Im} (h:mU m=true) {c:Int} (h0:0≤c) (h1:c<(m.1.length:Int)):cN m c=true:=by
 have:=hZ.1 h c.toNat (by omega)
 rwa [show ((c.toNat:Nat):Int)=c by omega] at this
theorem aO9 {m:Im} (hf:bD m=true) (h:mU m=true) {c:Int} (h0:0≤c) (h1:c<(m.1.length:Int)):lM m c=true:=by
 simp only[lM,Bool.and_eq_true,decide_eq_true_eq]
 exact⟨hf,h0,h1,hZ.2 fun k hk=>mS h (by omega) (by omega)⟩
theorem aJ6 {m:Im} {c:Int} (h:cN m c=true):bX m.1 c<c:=by
 simp only[cN,Bool.and_eq_true,decide_eq_true_eq] at h
 exact h.1
theorem nY {m:Im} {c:Int} (h:cN m c=true) {k:Nat} {f:Int} (hk:(bG m c).2.2.1[k]? =some f):(0≤f∧f<(m.2.2.2.1.length:Int))∧0<(aC m f).1.length:=by
 simp only[cN,Bool.and_eq_true,decide_eq_true_eq] at h
 obtain⟨_,_,_,_,h5⟩:=h
 have:=(oJ _ 0).1 h5 k f hk
 simp only[rD,sin,aAU,Bool.and_eq_true,decide_eq_true_eq] at this
 exact⟨this.1,this.2.1.1⟩
theorem aGr {m:Im} {c:Int} (h0:0≤c) (h1:c<(m.1.length:Int)) (hs:bX m.1 c<c):kup m.1 c=bX m.1 c:=by
 unfold kup
 have a:¬c<0:=by omega
 have b:¬c≥(m.1.length:Int):=by omega
 have d:¬bX m.1 c≥c:=by omega
 simp[a,b,d]
theorem aEC {m:Im} {c:Int} (h0:0≤c) (h1:c<(m.1.length:Int)) (hs:bX m.1 c<c):dP m c=(bG m c).2.1.length+gN m c:=by
 unfold dP gN
 rw[cE h0,aGr h0 h1 hs]
 rfl
theorem aVl (n c:Int):aUK n c=some (sin n c,()):=by
 unfold aUK sin
 have:decide (n≥0)=decide (0≤n):=rfl
 rw[this]
 cases decide (0≤n) <;> rfl
theorem aPu (l:List (List Tp)):∃M,∀x∈l,x.length≤M:=by
 induction l with
 | nil=>exact⟨0,by simp⟩
 | cons x l ih=>
  obtain⟨M,hM⟩:=ih
  exact⟨x.length+M,fun y hy=>by
   rcases List.mem_cons.1 hy with rfl | hy
   ·omega
   ·have:=hM y hy;omega⟩
theorem aTX (m:Im) (l:List (List Tp)) (h:aTE m l):∃k,aSL k m l=some (nS m l,()):=by
 obtain⟨M,hM⟩:=aPu l
 have hl:l.length≤lenMax∧∀x∈l,x.length≤lenMax:=⟨h.2.1.1,fun x hx=>(h.2.1.2 x hx).1⟩
 refine⟨l.length+M+1,?_⟩
 unfold aSL nS
 have key:aA (aEw m l (l.length+M+1)) (l.length+M+1) ((0:Int),())=bif l.all (cV m) then some (true,()) else some (false,()):=by
  refine dB (st:=fun k=>((k:Int),())) (p:=cV m) (fun k x rec hk hlt=>?_) (fun rec=>?_) _ (by omega)
  ·rw[aEw]
   simp only[dlt hlt,dge,Bool.and_self,cond_true]
   have hx:x∈l:=List.mem_of_getElem? hk
   refine dB (st:=fun k=>((k:Int),())) (p:=fun t=>dV t (m.1.length:Int)) (fun j t rec2 hj hlj=>?_) (fun rec2=>?_) _ (by have:=hM x hx;omega)
   ·rw[aI7]
    simp only[Int.toNat_natCast,getD_some hk,dlt hlj,dge,Bool.and_self,cond_true,getD_some hj,aL hlj (hl.2 x hx)]
    cases dV t (m.1.length:Int) <;> rfl
   ·rw[aI7]
    simp only[Int.toNat_natCast,getD_some hk,aW,cond_false,aL hlt hl.1]
  ·rw[aEw]
   simp only[aW,cond_false]
 rw[key]
 cases l.all (cV m) <;> rfl
theorem aOr (m:Im) (l:List Tp) (h:aQf m l):∃k,aLH k m l=some (nH m l,()):=by
 refine⟨l.length+1,?_⟩
 unfold aLH nH cV
 have key:aA (aAN m l) (l.length+1) ((0:Int),())=bif (l.all fun t=>dV t (m.1.length:Int)) then some (true,()) else some (false,()):=by
  refine dB (st:=fun k=>((k:Int),())) (p:=fun t=>dV t (m.1.length:Int)) (fun k x rec hk hlt=>?_) (fun rec=>?_) _ (by omega)
  ·rw[aAN]
   simp only[dlt hlt,dge,Bool.and_self,cond_true,Int.toNat_natCast,getD_some hk,aL hlt h.2.1.1,aAB]
   cases dV x (m.1.length:Int) <;> rfl
  ·rw[aAN]
   simp only[aW,cond_false]
 rw[key]
 cases l.all fun t=>dV t (m.1.length:Int) <;> rfl
theorem aDb (m:Im) (hf:Fit m) (c:Int) (hc:c≤(m.1.length:Int)) (hh:∀k:Nat,(k:Int)<c→cN m (k:Int)=true) (sl:List Int):∀(n:Nat) (s:Int) (acc:Nat),s.toNat<n→s<c→acc+8*n≤1000→
  aA (aAr m (sl,())) (n+1) ((acc:Int),s,())=some (((acc+bJ ((bQ m.1 s).map fun s=>(bG m s).2.1.length):Nat):Int),sl,())
 | 0,_,_,h,_,_=>by omega
 | n+1,s,acc,h,hs,hb=>by
  rw[aD,aAr]
  by_cases h0:s<0
  ·have:¬s≥0:=by omega
   rw[bP h0]
   simp[this,bJ]
  ·have h1:s≥0:=by omega
   have h1':0≤s:=h1
   have h2:s<(m.1.length:Int):=by omega
   have hcl:cN m s=true:=by
    have:=hh s.toNat (by omega)
    rwa [show ((s.toNat:Nat):Int)=s by omega] at this
   have hsup:=aJ6 hcl
   rw[cE h1',aGr h1' h2 hsup]
   have hcls:=(sF (hf.cls _ (nU h1' h2))).2.1.1
   simp only[h1,h2,decide_true,Bool.and_self,cond_true]
   have hd:m.1.getD s.toNat zCl=bG m s:=rfl
   rw[hd,cC (by omega) (by omega)]
   have e:((acc:Int)+((bG m s).2.1.length:Int))=((acc+(bG m s).2.1.length:Nat):Int):=by omega
   rw[e]
   have hsd:(bG m s).1=bX m.1 s:=rfl
   rw[hsd]
   by_cases hk:bX m.1 s<0
   ·rw[aD,aAr,bP hk]
    have:¬bX m.1 s≥0:=by omega
    simp[this,bJ]
   ·rw[aDb m hf c hc hh sl n (bX m.1 s) _ (by omega) (by omega) (by omega)]
    simp only[List.map_cons,bJ]
    rw[Nat.add_assoc]
theorem aQh (m:Im) (c:Int) (r) (h:pL m c=some r):∃k,aLT k m c=some r:=by
 unfold pL at h
 cases hp:lM m c&&decide (bX m.1 c<c) <;> simp only[hp,cond_true,cond_false] at h
 ·cases h
 injection h with h
 subst h
 simp only[Bool.and_eq_true,decide_eq_true_eq] at hp
 obtain⟨hf,h0,h1,hh⟩:=aGf hp.1
 have hs:=hp.2
 have hcl8:=hf.classes
 refine⟨(bX m.1 c).toNat+1+1,?_⟩
 have hd:(m.1.getD c.toNat zCl).1=bX m.1 c:=rfl
 have hloop:=aDb m hf c (by omega) hh (bS m c) ((bX m.1 c).toNat+1) (bX m.1 c) 0 (by omega) hs (by omega)
 unfold aLT
 rw[hd]
 simp only[h0,h1,decide_true,Bool.and_self,cond_true]
 have hup:(bif decide (bX m.1 c≥0) then bif decide (0≤bX m.1 c)&&decide (bX m.1 c<(m.1.length:Int)) then (some (.inl ((m.1.getD (bX m.1 c).toNat zCl).2.2.1,())):Option ((List Int×Unit)⊕(Int×List Int×Unit))) else none else some (.inl (([]:List Int),())))=some (.inl (bS m c,())):=by
  unfold bS
  by_cases hk:0≤bX m.1 c
  ·have a:bX m.1 c≥0:=hk
   have b:bX m.1 c<(m.1.length:Int):=by omega
   simp only[a,b,decide_true,Bool.and_self,cond_true]
   rfl
  ·have a:¬bX m.1 c≥0:=hk
   simp only[a,decide_false,cond_false]
 have hcast:∀x y:Nat,(x<y)=((x:Int)<(y:Int)):=fun x y=>by simp
 rw[hup]
 simp only[Option.bind_some]
 unfold gN
 simpa using hloop
theorem aRc (m:Im) (c f:Int) (r) (h:aCq m c f=some r):aQl m c f=some r:=by
 unfold aCq at h
 cases hp:sin f (m.2.2.2.1.length:Int) <;> simp only[hp,cond_true,cond_false] at h
 ·cases h
 injection h with h
 subst h
 simp only[sin,Bool.and_eq_true,decide_eq_true_eq] at hp
 unfold aQl aAU
 have hd:m.2.2.2.1.getD f.toNat zMt=aC m f:=rfl
 rw[hd]
 simp only[hp.1,hp.2,decide_true,Bool.and_self,cond_true]
 by_cases hl:0<(aC m f).1.length
 ·have a:((aC m f).1.length:Int)>0:=by omega
  have b:(0:Int)<((aC m f).1.length:Int):=by omega
  simp[hl]
 ·have a:¬((aC m f).1.length:Int)>0:=by omega
  simp[hl]
theorem sN {α:Type} (l:List α) (n:Nat):(l.take l.length).drop n=l.drop n:=by rw[List.take_length]
theorem aPv (a b:Mt):aMf a b=some (aBd a b,()):=by
 unfold aMf aBd aFb eqL
 rw[rX,sN,sN]
 by_cases ha:0<a.1.length
 ·have a1:(a.1.length:Int)>0:=by omega
  have a2:(1:Int)≤(a.1.length:Int):=by omega
  by_cases hb:0<b.1.length
  ·have b1:(b.1.length:Int)>0:=by omega
   have b2:(1:Int)≤(b.1.length:Int):=by omega
   simp only[ha,hb,a1,a2,b1,b2,decide_true,Bool.true_and,cond_true,Int.le_refl]
   cases a.1.drop 1==b.1.drop 1 <;> rfl
  ·have b1:¬(b.1.length:Int)>0:=by omega
   simp[ha,hb]
 ·have a1:¬(a.1.length:Int)>0:=by omega
  simp[ha]
end Go.Pli

namespace Go.Pli
open Go Go.PM
theorem aOd {m:Im} {c:Int} {k:Nat} {f:Int} (hf:Fit m) (h0:0≤c) (h1:c<(m.1.length:Int)) (hk:(bG m c).2.2.1[k]? =some f):0≤f∧f≤11:=
 (sF (hf.cls _ (nU h0 h1))).2.2.2 f (List.mem_of_getElem? hk)
theorem aGT {m:Im} {c:Int} (hh:∀k:Nat,(k:Int)<c→cN m (k:Int)=true) (hs:bX m.1 c<c) {k:Nat} (hk:k<(bS m c).length):
  (0≤(bS m c).getD k 0∧(bS m c).getD k 0<(m.2.2.2.1.length:Int))∧0<(aC m ((bS m c).getD k 0)).1.length:=by
 unfold bS at hk⊢
 by_cases h0:0≤bX m.1 c
 ·simp only[h0,decide_true,cond_true] at hk⊢
  have hcl:cN m (bX m.1 c)=true:=by
   have:=hh (bX m.1 c).toNat (by omega)
   rwa [show (((bX m.1 c).toNat:Nat):Int)=bX m.1 c by omega] at this
  have hg:=List.getElem?_eq_getElem hk
  rw[getD_some hg]
  exact nY hcl hg
 ·simp[h0] at hk
theorem aQu (m:Im) (c:Int) (r) (h:sE m c=some r):∃k,aL5 k m c=some r:=by
 unfold sE at h
 cases hp:lM m c <;> simp only[hp,cond_true,cond_false] at h
 ·cases h
 injection h with h
 subst h
 obtain⟨hf,h0,h1,hh⟩:=aGf hp
 refine⟨100,?_⟩
 obtain⟨⟨c1,c2⟩,⟨c3,c4⟩,⟨c5,c6⟩⟩:=sF (hf.cls _ (nU h0 h1))
 unfold aL5 cN
 have hd:m.1.getD c.toNat zCl=bG m c:=rfl
 have hd2:(bG m c).1=bX m.1 c:=rfl
 rw[hd,hd2]
 simp only[h0,h1,decide_true,Bool.and_self,cond_true]
 by_cases hs:bX m.1 c<c
 ·have hns:¬bX m.1 c≥c:=by omega
  simp only[hs,hns,decide_true,decide_false,cond_false,Bool.true_and]
  have hall:nS m [(bG m c).2.1]=cV m (bG m c).2.1:=by simp[nS]
  rw[hall]
  cases hg:cV m (bG m c).2.1
  ·rfl
  ·have hab:pL m c=some ((gN m c:Int),bS m c,()):=by
    unfold pL
    simp[hp,hs]
   rw[hab,aEC h0 h1 hs]
   simp only[Bool.not_true,cond_false,Option.bind_some,Bool.true_and]
   have hup8:gN m c≤100:=by
    have key:∀(n:Nat) (s:Int),s.toNat<n→s<(m.1.length:Int)→(∀k:Nat,(k:Int)≤s→cN m (k:Int)=true)→bJ ((bQ m.1 s).map fun s=>(bG m s).2.1.length)≤8*n:=by
     intro n
     induction n with
     | zero=>intro s h;omega
     | succ n ih=>
      intro s hn hsl hk
      by_cases hneg:s<0
      ·rw[bP hneg];simp[bJ]
      ·have hcs:=hk s.toNat (by omega)
       rw[show ((s.toNat:Nat):Int)=s by omega] at hcs
       have hsup:=aJ6 hcs
       rw[cE (by omega),aGr (by omega) hsl hsup]
       simp only[List.map_cons,bJ]
       have hb:=(sF (hf.cls _ (nU (m:=m) (c:=s) (by omega) hsl))).2.1.1
       by_cases hneg2:bX m.1 s<0
       ·rw[bP hneg2];simp[bJ];omega
       ·have:=ih (bX m.1 s) (by omega) (by omega) (fun k hk2=>hk k (by omega))
        omega
    have hcl:=hf.classes
    have:=key ((bX m.1 c).toNat+1) (bX m.1 c) (by omega) (by omega) (fun k hk=>hh k (by omega))
    unfold gN
    omega
   rw[cC (by omega) (by omega)]
   by_cases h8:(bG m c).2.1.length+gN m c≤8
   ·have h8':¬((gN m c:Int)+((bG m c).2.1.length:Int))>8:=by omega
    simp only[h8,h8',decide_true,decide_false,cond_false,Bool.true_and]
    by_cases hu:(bS m c).length≤(bG m c).2.2.1.length
    ·have hu':¬((bG m c).2.2.1.length:Int)<((bS m c).length:Int):=by omega
     simp only[hu,hu',decide_true,decide_false,cond_false,Bool.true_and]
     have key:aA (aAA m c ((gN m c:Int),bS m c,())) 100 ((0:Int),())=bif lG (rD m c) 0 (bG m c).2.2.1 then some (true,()) else some (false,()):=by
      refine oM (st:=fun k=>((k:Int),())) (p:=rD m c) (fun k f rec hk hlt=>?_) (fun rec=>?_) _ (by omega)
      ·rw[aAA]
       have hfr:=aOd hf h0 h1 hk
       simp only[hd,dlt hlt,dge,Bool.and_self,cond_true,Int.toNat_natCast,getD_some hk,aL hlt (show (bG m c).2.2.1.length≤lenMax by simp only[lenMax];omega)]
       unfold rD
       cases hsin:sin f (m.2.2.2.1.length:Int)
       ·rfl
       ·have hsf:aCq m c f=some (aAU m c f,()):=by unfold aCq;rw[hsin];rfl
        rw[hsf]
        simp only[Bool.not_true,cond_false,Option.bind_some,Bool.true_and]
        cases hfb:aAU m c f
        ·rfl
        ·have hsr:0≤f∧f<(m.2.2.2.1.length:Int):=by simpa[sin] using hsin
         simp only[Bool.not_true,cond_false,Bool.true_and]
         by_cases hku:k<(bS m c).length
         ·obtain⟨⟨u1,u2⟩,u3⟩:=aGT hh hs hku
          simp only[dlt hku,hku,cond_true,hsr.1,hsr.2,u1,u2,decide_true,Bool.and_self,Bool.not_true,Bool.false_or]
          have e1:m.2.2.2.1.getD f.toNat zMt=aC m f:=rfl
          have e2:m.2.2.2.1.getD ((bS m c).getD k 0).toNat zMt=aC m ((bS m c).getD k 0):=rfl
          rw[e1,e2]
          unfold aBd
          cases aFb (aC m f) (aC m ((bS m c).getD k 0)) <;> rfl
         ·have:¬(k:Int)<((bS m c).length:Int):=by omega
          simp[this,hku]
      ·rw[aAA]
       simp only[hd,aW,cond_false]
     rw[key]
     cases lG (rD m c) 0 (bG m c).2.2.1 <;> rfl
    ·have hu':((bG m c).2.2.1.length:Int)<((bS m c).length:Int):=by omega
     simp[hu,hu']
   ·have h8':((gN m c:Int)+((bG m c).2.1.length:Int))>8:=by omega
    simp[h8,h8']
 ·have hns:bX m.1 c≥c:=by omega
  simp[hs,hns]
theorem aGs {m:Im} {c:Int} (_:Fit m) (_:0≤c) (_:c<(m.1.length:Int)) (hcB:cN m c=true):dP m c≤8:=by
 simp only[cN,Bool.and_eq_true,decide_eq_true_eq] at hcB
 exact hcB.2.2.1
theorem aM7 (c:Int) (m:Im) (r) (h:pN c m=some r):aJX c m=some r:=by
 unfold pN at h
 cases hp:bD m&&(mU m&&sin c (m.1.length:Int)) <;> simp only[hp,cond_true,cond_false] at h
 ·cases h
 injection h with h
 subst h
 simp only[Bool.and_eq_true,sin,decide_eq_true_eq] at hp
 obtain⟨hi,ha,h0,h1⟩:=hp
 have hcB:=mS ha h0 h1
 have hs:=aJ6 hcB
 have hpc:=aO9 hi ha h0 h1
 have hab:pL m c=some ((gN m c:Int),bS m c,()):=by unfold pL;simp[hpc,hs]
 have hsm:=aGs (bC hi) h0 h1 hcB
 rw[aEC h0 h1 hs] at hsm⊢
 unfold aJX
 rw[hab]
 have hd:m.1.getD c.toNat zCl=bG m c:=rfl
 rw[hd]
 simp only[Option.bind_some,h0,h1,decide_true,Bool.and_self,cond_true]
 rw[cC (by omega) (by omega)]
 congr 2
 omega
theorem aQs (m:Im) (x:Mt) (i:Ins) (f:Im×Unit) (r) (h:xR m x i f=some r):aME m x i f=some r:=by
 unfold xR at h
 cases hp:mT m x&&f.1==m <;> simp only[hp,cond_true,cond_false] at h
 ·cases h
 injection h with h
 subst h
 simp only[Bool.and_eq_true,beq_iff_eq,mT] at hp
 obtain⟨⟨hi,ha,hx⟩,hfm⟩:=hp
 obtain⟨⟨x1,_⟩,⟨x2,_⟩,_,⟨x4,_⟩,_⟩:=jU hx
 unfold aME bH
 rw[hfm]
 have hw:IntKind.i64.wrap ((x.1.length:Int)+(x.2.1.length:Int))=((x.1.length+x.2.1.length:Nat):Int):=by
  rw[cC (by omega) (by omega)];omega
 rw[hw]
 have h27:∀a:Bool,(bif a then (bif sin i.2.1 (m.1.length:Int) then (pN i.2.1 m).bind fun r9=>some (sin i.2.2.1 r9.1,()) else some (false,())) else none)=
   bif a then some (sin i.2.1 (m.1.length:Int)&&sin i.2.2.1 (dP m i.2.1:Int),()) else (none:Option (Bool×Unit)):=fun a=>by
  cases a
  ·rfl
  ·simp only[cond_true]
   cases hsn:sin i.2.1 (m.1.length:Int)
   ·rfl
   ·have:pN i.2.1 m=some ((dP m i.2.1:Int),()):=by unfold pN;simp[hi,ha,hsn]
    rw[this];rfl
 have h27':=h27 true
 simp only[cond_true] at h27'
 have h32:(bif sin i.2.1 (m.1.length:Int) then (bif decide (0≤i.2.1)&&decide (i.2.1<m.1.length) then (some (sin i.2.2.1 ((m.1.getD i.2.1.toNat zCl).2.2.1.length:Int),()):Option (Bool×Unit)) else none) else some (false,()))=
   some (sin i.2.1 (m.1.length:Int)&&sin i.2.2.1 ((bG m i.2.1).2.2.1.length:Int),()):=by
  cases hsn:sin i.2.1 (m.1.length:Int)
  ·rfl
  ·have:0≤i.2.1∧i.2.1<(m.1.length:Int):=by simpa[sin] using hsn
   simp only[cond_true,this.1,this.2,decide_true,Bool.and_self,Bool.true_and]
   rfl
 simp only[h27',h32]
 cases i.1==1 <;> cases i.1==3 <;> cases i.1==4 <;> cases i.1==18 <;> cases i.1==19 <;> try rfl
 all_goals (cases i.1==22 <;> cases i.1==34 <;> cases i.1==27 <;> cases i.1==28 <;> cases i.1==29 <;> cases i.1==30 <;> cases i.1==31 <;> cases i.1==32 <;> rfl)
theorem aMR (m:Im) (x:Mt) (r) (h:tW m x=some r):∃k,aIT k m x=some r:=by
 unfold tW at h
 cases hp:mT m x <;> simp only[hp,cond_true,cond_false] at h
 ·cases h
 injection h with h
 subst h
 have hp':=hp
 simp only[Bool.and_eq_true,mT] at hp
 obtain⟨hi,ha,hx⟩:=hp
 obtain⟨⟨x1,_⟩,⟨x2,_⟩,_,⟨x4,_⟩,_⟩:=jU hx
 refine⟨100,?_⟩
 have key:aA (vP m x) 100 ((0:Int),())=bif x.2.2.2.1.all (bH m x) then some (true,()) else some (false,()):=by
  refine dB (st:=fun k=>((k:Int),())) (p:=bH m x) (fun k i rec hk hlt=>?_) (fun rec=>?_) _ (by omega)
  ·rw[vP]
   have hsi:xR m x i (m,())=some (bH m x i,()):=by unfold xR;simp[hp']
   simp only[dlt hlt,dge,Bool.and_self,cond_true,Int.toNat_natCast,getD_some hk,aL hlt (show x.2.2.2.1.length≤lenMax by simp only[lenMax];omega),hsi,Option.bind_some]
   cases bH m x i <;> rfl
  ·rw[vP]
   simp only[aW,cond_false]
 unfold aIT cI
 rw[key,cC (by omega) (by omega),aGy]
 have hs1:nS m [x.1,x.2.1]=(cV m x.1&&cV m x.2.1):=by simp[nS]
 have hs2:nS m [[x.2.2.1]]=dV x.2.2.1 (m.1.length:Int):=by simp[nS,cV]
 have hret:((x.2.2.1.1==5)&&((x.2.2.1.2.1==0)&&true))=(x.2.2.1==(5,0,())):=rX x.2.2.1 (5,0,())
 rw[hs1,hs2,hret]
 have hz:((x.2.2.2.1.length:Int)==0)=decide (x.2.2.2.1.length=0):=by
  by_cases hz:x.2.2.2.1.length=0
  ·simp[hz]
  ·have:¬((x.2.2.2.1.length:Int)=0):=by omega
   simp[hz]
 have h8:decide ((x.1.length:Int)+(x.2.1.length:Int)>8)= !decide (x.1.length+x.2.1.length≤8):=by
  by_cases h8:x.1.length+x.2.1.length≤8
  ·have:¬((x.1.length:Int)+(x.2.1.length:Int)>8):=by omega
   simp[h8,this]
  ·have:((x.1.length:Int)+(x.2.1.length:Int)>8):=by omega
   simp[h8,this]
 have hne:decide (x.2.2.2.1.length≠0)= !decide (x.2.2.2.1.length=0):=by by_cases h:x.2.2.2.1.length=0 <;> simp[h]
 rw[hz,h8,hne]
 cases cV m x.1 <;> cases cV m x.2.1 <;> cases x.2.2.1==(5,0,()) <;> cases dV x.2.2.1 (m.1.length:Int) <;> cases decide (x.2.2.2.1.length=0) <;> try rfl
 all_goals (cases decide (x.2.2.2.2.2.2.1.length=x.2.2.2.1.length) <;> cases decide (x.1.length+x.2.1.length≤8) <;> cases x.2.2.2.1.all (bH m x) <;> rfl)
theorem aNM (t:Tp):aIS t=some (sentry1 t,()):=by
 unfold aIS sentry1
 rw[Bool.and_true]
theorem aMZ (t:Tp) (f:Unit):aRj t f=some (tZ t f,()):=rfl
theorem aPe (m:Im) (f:Int) (r) (h:aEN m f=some r):aMs m f=some r:=by
 injection h with h
 subst h
 unfold aMs gR iS
 have ha:((aC m f).1.any fun t=>tZ t ())= !(aC m f).1.all sentry1:=yP sentry1 _
 have hd:m.2.2.2.1.getD f.toNat zMt=aC m f:=rfl
 rw[hd,ha]
 cases hs:sin f (m.2.2.2.1.length:Int)
 ·rfl
 ·have hr:0≤f∧f<(m.2.2.2.1.length:Int):=by simpa[sin] using hs
  simp only[hr.1,hr.2,decide_true,Bool.and_self,Bool.not_true,cond_true,cond_false,Bool.not_not]
  cases sentry1 (aC m f).2.2.1 <;> cases (aC m f).2.2.1.1==5 <;> cases (aC m f).1.all sentry1 <;> rfl
theorem aO4 (m:Im) (_:aO5 m):∃k,aMl k m=some (eK m,()):=by
 refine⟨100,?_⟩
 unfold aMl eK
 cases hi:bD m
 ·rfl
 have hf:=bC hi
 have hall:nS m [m.2.1]=cV m m.2.1:=by simp[nS]
 rw[hall]
 simp only[Bool.not_true,cond_false,cond_true]
 unfold lK
 cases cV m m.2.1
 ·rfl
 simp only[Bool.not_true,cond_false,Bool.true_and]
 have hent:=hf.entries
 simp only[eM,Bool.and_eq_true,decide_eq_true_eq] at hent
 have h8:=hf.classes
 have h12:=hf.methods
 have key1:aA (aAL m) 100 ((0:Int),())=bif m.2.2.2.2.1.all (gR m) then some ((0:Int),()) else some ((3:Int),()):=by
  refine dB (st:=fun k=>((k:Int),())) (p:=gR m) (fun k f rec hk hlt=>?_) (fun rec=>?_) _ (by omega)
  ·rw[aAL]
   simp only[dlt hlt,dge,Bool.and_self,cond_true,Int.toNat_natCast,getD_some hk,aL hlt (show m.2.2.2.2.1.length≤lenMax by simp only[lenMax];omega),aEN,Option.bind_some]
   cases gR m f <;> rfl
  ·rw[aAL]
   simp only[aW,cond_false]
 have key3:aA (mB m 100) 100 ((0:Int),())=bif mU m then (bif m.2.2.2.1.all (cI m) then (bif m.2.2.2.2.1.all (gR m) then some ((0:Int),()) else some ((3:Int),())) else some ((3:Int),())) else some ((3:Int),()):=by
  cases hac:mU m with
  | false=>
   have:aA (mB m 100) 100 ((0:Int),())=bif (List.range m.1.length).all (fun k=>cN m (k:Int)) then aA (vF m 100) 100 ((0:Int),()) else some ((3:Int),()):=by
    refine aHl (st:=fun k=>((k:Int),())) (q:=fun k=>cN m (k:Int)) (fun k rec hlt hh=>?_) (fun rec=>?_) _ (by omega)
    ·rw[mB]
     have hpc:lM m (k:Int)=true:=by
      simp only[lM,Bool.and_eq_true,decide_eq_true_eq]
      exact⟨hi,by omega,by omega,hZ.2 fun j hj=>hh j (by omega)⟩
     have hsc:sE m (k:Int)=some (cN m (k:Int),()):=by unfold sE;rw[hpc];rfl
     simp only[dlt hlt,cond_true,hsc,Option.bind_some,aL hlt (show m.1.length≤lenMax by simp only[lenMax];omega)]
     cases cN m (k:Int) <;> rfl
    ·rw[mB]
     simp only[aW,cond_false]
   rw[this]
   have hac':(List.range m.1.length).all (fun k=>cN m (k:Int))=false:=hac
   rw[hac'];rfl
  | true=>
   have:aA (mB m 100) 100 ((0:Int),())=bif (List.range m.1.length).all (fun k=>cN m (k:Int)) then aA (vF m 100) 100 ((0:Int),()) else some ((3:Int),()):=by
    refine aHl (st:=fun k=>((k:Int),())) (q:=fun k=>cN m (k:Int)) (fun k rec hlt hh=>?_) (fun rec=>?_) _ (by omega)
    ·rw[mB]
     have hpc:lM m (k:Int)=true:=by
      simp only[lM,Bool.and_eq_true,decide_eq_true_eq]
      exact⟨hi,by omega,by omega,hZ.2 fun j hj=>hh j (by omega)⟩
     have hsc:sE m (k:Int)=some (cN m (k:Int),()):=by unfold sE;rw[hpc];rfl
     simp only[dlt hlt,cond_true,hsc,Option.bind_some,aL hlt (show m.1.length≤lenMax by simp only[lenMax];omega)]
     cases cN m (k:Int) <;> rfl
    ·rw[mB]
     simp only[aW,cond_false]
   rw[this]
   have hac':(List.range m.1.length).all (fun k=>cN m (k:Int))=true:=hac
   rw[hac']
   simp only[cond_true]
   refine dB (st:=fun k=>((k:Int),())) (p:=cI m) (fun k x rec hk hlt=>?_) (fun rec=>?_) _ (by omega)
   ·rw[vF]
    have hpm:mT m x=true:=by
     simp only[mT,Bool.and_eq_true]
     exact⟨hi,hac,hf.mts x (List.mem_of_getElem? hk)⟩
    have hsm:tW m x=some (cI m x,()):=by unfold tW;rw[hpm];rfl
    simp only[dlt hlt,dge,Bool.and_self,cond_true,Int.toNat_natCast,getD_some hk,hsm,Option.bind_some,aL hlt (show m.2.2.2.1.length≤lenMax by simp only[lenMax];omega)]
    cases cI m x <;> rfl
   ·rw[vF]
    simp only[aW,cond_false]
    exact key1
 rw[key3]
 cases mU m <;> cases m.2.2.2.1.all (cI m) <;> cases m.2.2.2.2.1.all (gR m) <;> rfl
end Go.Pli
