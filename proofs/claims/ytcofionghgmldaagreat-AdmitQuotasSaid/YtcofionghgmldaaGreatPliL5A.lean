/- Images: what the functions come to: what fits. -/
import Derived.Test.YtcofionghgmldaaGreatPliSp
import Derived.Test.YtcofionghgmldaaGreatPliInst
namespace Go.Pli
open Go Go.PM
theorem aR1 (s:List Cl):aP2 s=some (idL s,()):=by simp[aP2,idL]
theorem aSG (s:List Mt):aOX s=some (idL s,()):=by simp[aOX,idL]
theorem aSE (s:List Tp):aQq s=some (idL s,()):=by simp[aQq,idL]
theorem aRk (s:List Int):aOr s=some (idL s,()):=by simp[aOr,idL]
theorem aQ7 (s:List Ins):aP3 s=some (idL s,()):=by simp[aP3,idL]
theorem aRr (s:List Int):aO8 s=some (idL s,()):=by simp[aO8,idL]
theorem aNK (n m:Int):aKo n m=some (aR n m,()):=by
 unfold aKo aR
 by_cases h:0≤n
 ·have:n≥0:=h
  simp[h]
 ·have:¬n≥0:=h
  simp[h]
theorem aTS (t:Tp):aSZ t=some (ityp t,()):=by
 unfold aSZ ityp
 cases aR t.1 5 <;> cases t.2.1==0 <;> cases t.1==3 <;> rfl
theorem aSx (t:Tp):aUC t=some (aCV t,()):=rfl
theorem yG {α:Type} (p:α→Bool) (l:List α):(l.any fun x=> !p x)= !l.all p:=by
 induction l with
 | nil=>rfl
 | cons x l ih=>simp[ih]
theorem aQD (l:List Tp) (m:Int):aL0 l m=some (cQ l m,()):=by
 unfold aL0 cQ lC
 have:l.any aCV= !l.all ityp:=yG ityp l
 rw[this]
 cases decide ((l.length:Int)≤m) <;> simp
theorem aRH (n m:Int):aUE n m=some (aAI n m,()):=rfl
theorem aSt (l:List Int) (c m:Int):aPX l c m=some (eO l c m,()):=by
 unfold aPX eO mH
 have:(l.any fun n=>aAI n m)= !l.all fun n=>aR n m:=yG (fun n=>aR n m) l
 simp only
 rw[this]
 cases decide ((l.length:Int)≤c) <;> simp
theorem aO0 (x:Cl):aL1 x=some (iclass x,()):=by
 unfold aL1 iclass
 have h1:decide (x.1≥(-1:Int))=decide (-1≤x.1):=rfl
 rw[h1]
 cases decide (-1≤x.1) <;> cases decide (x.1<8) <;> cases cQ x.2.1 8 <;> rfl
theorem aP5 (x:Cl):aTa x=some (yX x,()):=rfl
theorem aPg (x:Mt):aUh x=some (xV x,()):=rfl
theorem dgt (a b:Int):decide (a>b)= !decide (a≤b):=by
 by_cases h:a≤b
 ·have:¬a>b:=by omega
  simp[h]
 ·have:a>b:=by omega
  simp[this]
theorem aRt (m:Im):aPZ m=some (bC m,()):=by
 unfold aPZ bC lF kB
 have h1:m.1.any yX= !m.1.all iclass:=yG iclass _
 have h2:m.2.2.2.1.any xV= !m.2.2.2.1.all imethod:=yG imethod _
 rw[h1,h2,dgt,dgt,dgt]
 cases decide ((m.1.length:Int)≤8) <;> cases cQ m.2.1 8 <;> cases decide ((m.2.2.1.length:Int)≤16) <;> cases decide ((m.2.2.2.1.length:Int)≤12) <;> cases m.1.all iclass <;>
  cases m.2.2.2.1.all imethod <;> cases eO m.2.2.2.2.1 12 11 <;> cases aR m.2.2.2.2.2.1 4096 <;> rfl
theorem aNu (x:Mt):∃k,aJH k x=some (imethod x,()):=by
 refine⟨x.2.2.2.1.length+1,?_⟩
 unfold aJH
 rw[dgt]
 by_cases hl:(x.2.2.2.1.length:Int)≤64
 ·have hl2:x.2.2.2.1.length≤lenMax:=by simp only[lenMax];omega
  have hfin:aA (wB x) (x.2.2.2.1.length+1) ((0:Int),())=bif x.2.2.2.1.all dQ then
    (bif aR x.2.2.2.2.1 8 then (bif aR x.2.2.2.2.2.1 4096 then some (eO x.2.2.2.2.2.2.1 64 4096,()) else some (false,())) else some (false,())) else some (false,()):=by
   refine dD (st:=fun k=>((k:Int),())) (p:=dQ) (fun k i rec hk hlt=>?_) (fun rec=>?_) _ (Nat.lt_succ_self _)
   ·unfold wB
    simp only[dlt hlt,dge,Bool.and_self,cond_true,Int.toNat_natCast,getD_some hk,aN hlt hl2]
    cases dQ i <;> rfl
   ·unfold wB
    simp only[bB,cond_false]
  rw[hfin]
  unfold imethod
  simp only[hl,decide_true,Bool.not_true,cond_false]
  cases cQ x.1 4 <;> cases cQ x.2.1 8 <;> cases ityp x.2.2.1 <;> cases x.2.2.2.1.all dQ <;> cases aR x.2.2.2.2.1 8 <;> cases aR x.2.2.2.2.2.1 4096 <;> rfl
 ·unfold imethod
  simp only[hl,decide_false,Bool.not_false,cond_true]
  cases cQ x.1 4 <;> cases cQ x.2.1 8 <;> cases ityp x.2.2.1 <;> rfl
theorem aHZ (l:List Cl) (c:Unit) (h:aHS l c):∃k,aK0 k l c=some (sW l c,()):=by
 refine⟨l.length+1,jG (st:=fun k=>((k:Int),())) (fun k x rec hk hlt=>?_) (fun rec=>?_) _ (Nat.lt_succ_self _)⟩
 ·unfold vB
  simp only[dlt hlt,dge,Bool.and_self,cond_true,Int.toNat_natCast,getD_some hk,aN hlt h.1.1]
 ·unfold vB
  simp only[bB,cond_false]
theorem aEa (l:List Cl) (c:Unit) (_:aD1 l c):xY l c=some (lF l c,()):=by
 unfold xY sW lF
 rw[iA]
theorem aFV (l:List Mt) (c:Unit) (h:aGn l c):∃k,aIP k l c=some (rC l c,()):=by
 refine⟨l.length+1,jG (st:=fun k=>((k:Int),())) (fun k x rec hk hlt=>?_) (fun rec=>?_) _ (Nat.lt_succ_self _)⟩
 ·unfold sI
  simp only[dlt hlt,dge,Bool.and_self,cond_true,Int.toNat_natCast,getD_some hk,aN hlt h.1.1]
 ·unfold sI
  simp only[bB,cond_false]
theorem aC6 (l:List Mt) (c:Unit) (_:aC5 l c):vV l c=some (kB l c,()):=by
 unfold vV rC kB
 rw[iA]
theorem aH6 (l:List Tp) (c:Unit) (h:aHM l c):∃k,aLB k l c=some (sQ l c,()):=by
 refine⟨l.length+1,jG (st:=fun k=>((k:Int),())) (fun k x rec hk hlt=>?_) (fun rec=>?_) _ (Nat.lt_succ_self _)⟩
 ·unfold uI
  simp only[dlt hlt,dge,Bool.and_self,cond_true,Int.toNat_natCast,getD_some hk,aN hlt h.1.1]
 ·unfold uI
  simp only[bB,cond_false]
theorem aD3 (l:List Tp) (c:Unit) (_:aEe l c):yR l c=some (lC l c,()):=by
 unfold yR sQ lC
 rw[iA]
theorem aHR (l:List Tp) (c:Unit×Unit) (h:aH0 l c):∃k,aK3 k l c=some (sX l c,()):=by
 refine⟨l.length+1,jG (st:=fun k=>((k:Int),())) (fun k x rec hk hlt=>?_) (fun rec=>?_) _ (Nat.lt_succ_self _)⟩
 ·unfold vL
  simp only[dlt hlt,dge,Bool.and_self,cond_true,Int.toNat_natCast,getD_some hk,aN hlt h.1.1]
 ·unfold vL
  simp only[bB,cond_false]
theorem aDO (l:List Tp) (c:Unit×Unit) (_:aEd l c):yD l c=some (iZ l c,()):=by
 unfold yD sX iZ
 rw[iA]
theorem aJ9 (l:List Int) (c:Int×Unit) (h:aKd l c):∃k,aND k l c=some (wH l c,()):=by
 refine⟨l.length+1,jG (st:=fun k=>((k:Int),())) (p:=fun n=>aAI n c.1) (fun k x rec hk hlt=>?_) (fun rec=>?_) _ (Nat.lt_succ_self _)⟩
 ·unfold xJ
  simp only[dlt hlt,dge,Bool.and_self,cond_true,Int.toNat_natCast,getD_some hk,aN hlt h.1.1]
 ·unfold xJ
  simp only[bB,cond_false]
theorem aFS (l:List Int) (c:Int×Unit) (_:aFQ l c):aA6 l c=some (mH l c,()):=by
 unfold aA6 wH mH
 rw[iA]
theorem aTK (n a b:Int):aSW n a b=some (nD n a b,()):=by
 unfold aSW nD
 have h1:decide (n≥a)=decide (a≤n):=rfl
 rw[h1]
 cases decide (a≤n) <;> rfl
theorem aSH (t:Tp):aOu t=some (wV t,()):=by
 unfold aOu wV ityp nD aR
 cases decide (0≤t.1)&&decide (t.1≤5) <;> cases t.2.1==0 <;> cases t.1==3 <;> rfl
theorem aPs (l:List Int) (c m:Int) (h:aPB l c m):∃k,aMb k l c m=some (pG l c m,()):=by
 refine⟨l.length+1,?_⟩
 have key:aA (aAM l m) (l.length+1) ((0:Int),())=bif l.all (fun n=>aR n m) then some (true,()) else some (false,()):=by
  refine dD (st:=fun k=>((k:Int),())) (p:=fun n=>aR n m) (fun k x rec hk hlt=>?_) (fun rec=>?_) _ (Nat.lt_succ_self _)
  ·unfold aAM
   simp only[dlt hlt,dge,Bool.and_self,cond_true,Int.toNat_natCast,getD_some hk,aN hlt h.1.1]
   unfold nD aR
   cases decide (0≤x)&&decide (x≤m) <;> rfl
  ·unfold aAM
   simp only[bB,cond_false]
 unfold aMb
 rw[key,dgt]
 unfold pG eO
 cases decide ((l.length:Int)≤c) <;> simp
 cases l.all fun n=>aR n m <;> rfl
theorem aM1 (l:List Tp) (c:Int) (h:aNs l c):∃k,aI0 k l c=some (kA l c,()):=by
 refine⟨l.length+1,?_⟩
 have key:aA (wX l) (l.length+1) ((0:Int),())=bif l.all ityp then some (true,()) else some (false,()):=by
  refine dD (st:=fun k=>((k:Int),())) (p:=ityp) (fun k x rec hk hlt=>?_) (fun rec=>?_) _ (Nat.lt_succ_self _)
  ·unfold wX
   simp only[dlt hlt,dge,Bool.and_self,cond_true,Int.toNat_natCast,getD_some hk,aN hlt h.1.1]
   unfold wV
   cases ityp x <;> rfl
  ·unfold wX
   simp only[bB,cond_false]
 unfold aI0
 rw[key,dgt]
 unfold kA cQ
 cases decide ((l.length:Int)≤c) <;> simp
 cases l.all ityp <;> rfl
theorem aOM (m:Im) (_:aOk m):∃k,aLG k m=some (rV m,()):=by
 refine⟨100,?_⟩
 unfold aLG
 rw[dgt,dgt,dgt]
 by_cases h1:(m.1.length:Int)≤8
 ·by_cases h3:(m.2.2.2.1.length:Int)≤12
  ·have key2:aA (zL m 100) 100 ((0:Int),())=bif m.2.2.2.1.all imethod then some (true,()) else some (false,()):=by
    refine dD (st:=fun k=>((k:Int),())) (p:=imethod) (fun k x rec hk hlt=>?_) (fun rec=>?_) _ (by omega)
    ·unfold zL
     simp only[dlt hlt,dge,Bool.and_self,cond_true,Int.toNat_natCast,getD_some hk]
     rw[dgt]
     by_cases hc:(x.2.2.2.1.length:Int)≤64
     ·have inner:aA (zZ m ((k:Int),()) rec) 100 ((0:Int),())=bif x.2.2.2.1.all dQ then rec (((k+1:Nat):Int),()) else some (false,()):=by
       refine dD (st:=fun k=>((k:Int),())) (p:=dQ) (fun j i rec2 hj hlj=>?_) (fun rec2=>?_) _ (by omega)
       ·unfold zZ
        simp only[Int.toNat_natCast,getD_some hk,dlt hlj,dge,Bool.and_self,cond_true,getD_some hj,aN hlj (show x.2.2.2.1.length≤lenMax by simp only[lenMax];omega)]
        unfold aCf
        cases dQ i <;> rfl
       ·unfold zZ
        simp only[Int.toNat_natCast,getD_some hk,bB,cond_false,aN hlt (show m.2.2.2.1.length≤lenMax by simp only[lenMax];omega)]
      rw[inner]
      unfold imethod kA wV nD pG aR
      simp only[hc,decide_true,Bool.true_and,Bool.not_true,cond_false]
      cases cQ x.1 4 <;> cases cQ x.2.1 8 <;> cases ityp x.2.2.1 <;> cases x.2.2.2.1.all dQ <;> cases decide (0≤x.2.2.2.2.1)&&decide (x.2.2.2.2.1≤8) <;>
       cases decide (0≤x.2.2.2.2.2.1)&&decide (x.2.2.2.2.2.1≤4096) <;> cases eO x.2.2.2.2.2.2.1 64 4096 <;> rfl
     ·unfold imethod kA wV
      simp only[hc,decide_false,Bool.false_and,Bool.not_false,cond_true]
      cases cQ x.1 4 <;> cases cQ x.2.1 8 <;> cases ityp x.2.2.1 <;> rfl
    ·unfold zL
     simp only[bB,cond_false]
   have key1:aA (zF m 100) 100 ((0:Int),())=bif m.1.all iclass then (bif m.2.2.2.1.all imethod then some (true,()) else some (false,())) else some (false,()):=by
    refine dD (st:=fun k=>((k:Int),())) (p:=iclass) (fun k x rec hk hlt=>?_) (fun rec=>?_) _ (by omega)
    ·unfold zF
     simp only[dlt hlt,dge,Bool.and_self,cond_true,Int.toNat_natCast,getD_some hk,aN hlt (show m.1.length≤lenMax by simp only[lenMax];omega)]
     have h7:decide (x.1≤7)=decide (x.1<8):=by by_cases h:x.1<8 <;> simp[h] <;> omega
     unfold iclass nD kA pG
     rw[h7]
     cases decide (-1≤x.1) <;> cases decide (x.1<8) <;> cases cQ x.2.1 8 <;> cases eO x.2.2.1 4 11 <;> rfl
    ·unfold zF
     simp only[bB,cond_false]
     exact key2
   rw[key1]
   unfold rV bC kA pG nD aR
   simp only[h1,h3,decide_true,Bool.not_true,cond_false,Bool.true_and]
   cases cQ m.2.1 8 <;> cases decide ((m.2.2.1.length:Int)≤16) <;> cases m.1.all iclass <;> cases m.2.2.2.1.all imethod <;> cases eO m.2.2.2.2.1 12 11 <;>
    cases decide (0≤m.2.2.2.2.2.1)&&decide (m.2.2.2.2.2.1≤4096) <;> cases decide (0≤m.2.2.2.2.2.2.1)&&decide (m.2.2.2.2.2.2.1≤4096) <;> rfl
  ·unfold rV bC
   simp only[h1,h3,decide_true,decide_false,Bool.not_true,Bool.not_false,cond_true,cond_false,Bool.false_and,Bool.and_false]
   cases decide ((m.2.2.1.length:Int)≤16) <;> rfl
 ·unfold rV bC
  simp only[h1,decide_false,Bool.not_false,cond_true,Bool.false_and]
end Go.Pli

namespace Go.Pli
open Go Go.PM
theorem rM (x y:Tp):((x.1==y.1)&&((x.2.1==y.2.1)&&true))=(x==y):=by
 obtain⟨a,b,u⟩:=x;obtain⟨c,d,v⟩:=y;rfl
theorem aFe {α:Type} [BEq α]:∀(a b:List α),a.length=b.length→(a.zip b).all (fun q=>q.1==q.2)=(a==b)
 | [],[],_=>rfl
 | [],_::_,h=>by simp at h
 | _::_,[],h=>by simp at h
 | x::a,y::b,h=>by
  have ih:=aFe a b (by simpa using h)
  simp only[List.zip_cons_cons,List.all_cons,ih]
  rfl
theorem aR7 {α σ R:Type} [BEq α] {L:σ→(σ→Option R)→Option R} {a b:List α} {st:Nat→σ} {ex fin:Option R} (hl:a.length=b.length)
  (h1:∀(k:Nat) (x y:α) (rec),a[k]? =some x→b[k]? =some y→k<a.length→k<b.length→L (st k) rec=bif x==y then rec (st (k+1)) else ex)
  (h2:∀rec,L (st a.length) rec=fin):∀F:Nat,a.length<F→aA L F (st 0)=bif a==b then fin else ex:=by
 intro F hF
 have hz:(a.zip b).length=a.length:=by rw[List.length_zip];omega
 rw[←aFe a b hl]
 refine dD (xs:=a.zip b) (p:=fun q=>q.1==q.2) (fun k q rec hk hlt=>?_) (fun rec=>by rw[hz];exact h2 rec) F (by omega)
 have hka:k<a.length:=by omega
 have hkb:k<b.length:=by omega
 rw[List.getElem?_eq_getElem hlt] at hk
 injection hk with hk
 subst hk
 rw[List.getElem_zip]
 exact h1 k _ _ rec (List.getElem?_eq_getElem hka) (List.getElem?_eq_getElem hkb) hka hkb
theorem aTi {α:Type} [BEq α] {a b:List α} (h:a.length≠b.length):(a==b)=false:=by
 induction a generalizing b with
 | nil=>cases b with
  | nil=>simp at h
  | cons=>rfl
 | cons x a ih=>cases b with
  | nil=>rfl
  | cons y b=>
   have:=ih (b:=b) (by simpa using h)
   show (x==y&&a==b)=false
   rw[this];simp
theorem aGt (a b:Nat):((a:Int) !=(b:Int))= !decide (a=b):=by
 by_cases h:a=b
 ·subst h;simp
 ·have:¬((a:Int)=(b:Int)):=by omega
  simp[h,this]
theorem aOp (a b:List Tp) (h:aVm a b):∃k,aUy k a b=some (eqL a b,()):=by
 refine⟨a.length+1,?_⟩
 unfold aUy
 rw[aGt]
 by_cases hl:a.length=b.length
 ·have key:aA (aIk a b) (a.length+1) ((0:Int),())=bif a==b then some (true,()) else some (false,()):=by
   refine aR7 (st:=fun k=>((k:Int),())) hl (fun k x y rec hx hy hka hkb=>?_) (fun rec=>?_) _ (Nat.lt_succ_self _)
   ·unfold aIk
    simp only[dlt hka,dlt hkb,dge,Bool.and_self,cond_true,Int.toNat_natCast,getD_some hx,getD_some hy,aN hka h.1.1,rM]
    cases x==y <;> rfl
   ·unfold aIk
    simp only[bB,cond_false]
  rw[key]
  unfold eqL
  simp only[hl,decide_true,Bool.not_true,cond_false]
  cases a==b <;> rfl
 ·unfold eqL
  rw[aTi hl]
  simp[hl]
theorem aPp (a b:List Tp) (h:aOA a b):∃k,aT9 k a b=some (yY a b,()):=aOp a b h
theorem aRG (t:Tp) (n:Int):aPu t n=some (dY t n,()):=by
 unfold aPu dY
 have h:decide (t.2.1≥0)=decide (0≤t.2.1):=rfl
 rw[h]
 cases t.1==1 <;> cases t.1==2 <;> cases t.1==3 <;> cases decide (0≤t.2.1) <;> rfl
theorem aRl (t:Tp) (n:Int):aPm t n=some (aAL t n,()):=by
 unfold aPm aAL dY
 have h:decide (t.2.1≥0)=decide (0≤t.2.1):=rfl
 rw[h]
 by_cases h1:t.1=1
 ·have h3:(t.1==3)=false:=by rw[h1];rfl
  have h1':(t.1==1)=true:=by rw[h1];rfl
  rw[h1',h3]
  cases t.2.1==0 <;> rfl
 ·have h1':(t.1==1)=false:=by simpa using h1
  rw[h1']
  by_cases h2:t.1=2
  ·have h3:(t.1==3)=false:=by rw[h2];rfl
   have h2':(t.1==2)=true:=by rw[h2];rfl
   rw[h2',h3]
   cases t.2.1==0 <;> rfl
  ·have h2':(t.1==2)=false:=by simpa using h2
   rw[h2']
   cases t.1==3 <;> cases decide (0≤t.2.1) <;> rfl
theorem aQw (t:Tp):aMy t=some (gW t,()):=by
 unfold aMy gW
 cases t.1==2 <;> cases t.1==3 <;> rfl
theorem aOI (t:Tp):aLH t=some (vK t,()):=by
 unfold aLH vK gW
 cases t.1==2 <;> cases t.1==3 <;> rfl
theorem aVq (l:List Cl) (c:Int):aUX l c=some (kup l c,()):=by
 unfold aUX kup bX
 by_cases h1:c<0
 ·simp[h1]
 ·by_cases h2:c≥(l.length:Int)
  ·simp[h1,h2]
  ·have h3:0≤c:=by omega
   have h4:c<(l.length:Int):=by omega
   simp only[h1,h2,h3,h4,decide_true,decide_false,Bool.and_self,cond_true,cond_false,Bool.false_or]
   cases decide ((l.getD c.toNat zCl).1≥c) <;> rfl
theorem kC {l:List Cl} {c:Int} (h:0≤c):kup l c<c:=by
 unfold kup
 by_cases h1:decide (c<0) || (decide (c≥(l.length:Int)) || decide (bX l c≥c))
 ·simp[h1];omega
 ·simp only[Bool.not_eq_true] at h1
  rw[h1]
  simp only[Bool.or_eq_false_iff,decide_eq_false_iff_not] at h1
  simp only[cond_false]
  omega
theorem pF {l:List Cl} {c:Int} (h:c<0):∀n,rT l n c=[]
 | 0=>rfl
 | n+1=>by simp[rT,h]
theorem aDx {l:List Cl}:∀(n m:Nat) (c:Int),c.toNat<n→c.toNat<m→rT l n c=rT l m c
 | 0,_,_,h,_=>by omega
 | _+1,0,_,_,h=>by omega
 | n+1,m+1,c,h1,h2=>by
  simp only[rT]
  by_cases hc:c<0
  ·simp[hc]
  ·have:=kC (l:=l) (c:=c) (by omega)
   simp only[hc,decide_false,cond_false]
   by_cases hk:kup l c<0
   ·rw[pF hk,pF hk]
   ·rw[aDx n m (kup l c) (by omega) (by omega)]
theorem bO {l:List Cl} {c:Int} (h:c<0):bQ l c=[]:=pF h _
theorem cF {l:List Cl} {c:Int} (h:0≤c):bQ l c=c::bQ l (kup l c):=by
 have h0:¬c<0:=by omega
 have:=kC (l:=l) h
 unfold bQ
 rw[rT]
 simp only[h0,decide_false,cond_false]
 by_cases hk:kup l c<0
 ·rw[pF hk,pF hk]
 ·rw[aDx c.toNat ((kup l c).toNat+1) (kup l c) (by omega) (by omega)]
theorem aEx (l:List Cl) (b:Int):∀(n:Nat) (c:Int),c.toNat<n→aA (zU l b) (n+1) (c,())=some ((bQ l c).contains b,())
 | 0,_,h=>by omega
 | n+1,c,h=>by
  rw[aD,zU]
  by_cases hc:c<0
  ·have h0:¬c≥0:=by omega
   rw[bO hc]
   simp only[h0,decide_false,cond_false]
   rfl
  ·have h0:c≥0:=by omega
   have hlt:=kC (l:=l) (c:=c) (by omega)
   rw[cF (by omega)]
   simp only[h0,decide_true,cond_true,List.contains_cons]
   by_cases hb:c=b
   ·subst hb;simp
   ·have e1:(c==b)=false:=by simpa using hb
    have e2:(b==c)=false:=by simpa using fun h=>hb h.symm
    rw[e1,e2]
    simp only[cond_false,Bool.false_or]
    by_cases hk:kup l c<0
    ·rw[bO hk,aD,zU]
     have:¬kup l c≥0:=by omega
     simp only[this,decide_false,cond_false]
     rfl
    ·exact aEx l b n (kup l c) (by omega)
theorem aOH (l:List Cl) (a b:Int):∃k,aMH k l a b=some (bZ l a b,()):=by
 refine⟨a.toNat+1+1,?_⟩
 unfold aMH bZ
 rw[aEx l b (a.toNat+1) a (by omega)]
 by_cases h1:b<0
 ·have:¬0≤b:=by omega
  simp[h1,this]
 ·have h1':0≤b:=by omega
  by_cases h2:b≥(l.length:Int)
  ·have:¬b<(l.length:Int):=by omega
   simp[h1,h2,this]
  ·have h2':b<(l.length:Int):=by omega
   by_cases h3:a≥(l.length:Int)
   ·have:¬a<(l.length:Int):=by omega
    simp[h1,h2,h3,this]
   ·have h3':a<(l.length:Int):=by omega
    simp only[h1,h2,h3,h1',h2',h3',decide_true,decide_false,cond_false,Bool.true_and]
theorem aTA (l:List Cl) (a b:Tp):aSU l a b=some (cP l a b,()):=by
 unfold aSU cP
 rw[rM]
 cases a.1==4 <;> cases a.1==3 <;> cases b.1==3 <;> cases a==b <;> cases a.1==1 <;> rfl
theorem mF (l:List Cl):∀(n:Nat) (c:Int),c.toNat<n→(bQ l c).length≤n
 | 0,_,h=>by omega
 | n+1,c,h=>by
  by_cases hc:c<0
  ·rw[bO hc];simp
  ·rw[cF (by omega),List.length_cons]
   have hlt:=kC (l:=l) (c:=c) (by omega)
   by_cases hk:kup l c<0
   ·rw[bO hk];simp
   ·have:=mF l n (kup l c) (by omega)
    omega
theorem fR {α:Type} {l:List α} (h:okL l=true):l.length<1000000:=by simpa[okL] using h
theorem aFD (l:List Cl) (hl:l.length<1000000):∀(n:Nat) (c:Int) (out:List Int),c.toNat<n→c<(l.length:Int)→out.length+n<3000000→
  aA (pU l) (n+1) (c,out,())=some (out++bQ l c,())
 | 0,_,_,h,_,_=>by omega
 | n+1,c,out,h,hcl,ho=>by
  rw[aD,pU]
  by_cases hc:c<0
  ·have h0:¬c≥0:=by omega
   rw[bO hc]
   simp[h0]
  ·have h0:c≥0:=by omega
   have h0':0≤c:=by omega
   have hlt:=kC (l:=l) (c:=c) (by omega)
   have hroom:out.length+[c].length<rowMax:=by simp[rowMax];omega
   rw[cF (by omega)]
   have hk:kup l c=bif decide ((l.getD c.toNat zCl).1≥c) then -1 else (l.getD c.toNat zCl).1:=by
    have e1:¬c≥(l.length:Int):=by omega
    unfold kup bX
    simp only[hc,e1,decide_false,Bool.false_or]
   simp only[h0,hcl,hroom,decide_true,Bool.and_self,cond_true]
   have fin:aA (pU l) (n+1) (kup l c,out++[c],())=some (out++(c::bQ l (kup l c)),()):=by
    by_cases hk:kup l c<0
    ·rw[aD]
     unfold pU
     have:¬kup l c≥0:=by omega
     rw[bO hk]
     simp[this]
    ·rw[aFD l hl n (kup l c) (out++[c]) (by omega) (by omega) (by simp;omega)]
     simp
   rw[hk] at fin⊢
   cases hd:decide ((l.getD c.toNat zCl).1≥c)
   ·rw[hd] at fin;simpa using fin
   ·rw[hd] at fin;simpa using fin
theorem aQi (l:List Cl) (c:Int) (r) (h:jC l c=some r):∃k,aMw k l c=some r:=by
 unfold jC at h
 cases hl:okL l <;> simp only[hl,cond_true,cond_false] at h
 ·cases h
 injection h with h
 subst h
 have hlt:=fR hl
 refine⟨c.toNat+1+1,?_⟩
 unfold aMw aY
 by_cases hc:c<(l.length:Int)
 ·rw[aFD l hlt (c.toNat+1) c [] (by omega) hc (by simp;omega)]
  simp[hc]
 ·rw[aD,pU]
  have h0:c≥0:=by omega
  simp[h0,hc]
theorem aUo (l:List Cl) (a b:Tp) (r) (h:uB l a b=some r):aSX l a b=some r:=by
 unfold uB at h
 cases hl:okL l <;> simp only[hl,cond_true,cond_false] at h
 ·cases h
 injection h with h
 subst h
 have hlt:=fR hl
 unfold aSX aCC jC
 rw[rM]
 have hlen:(aY l a.2.1).length<9223372036854775807:=by
  unfold aY
  by_cases hc:a.2.1<(l.length:Int)
  ·have:=mF l (a.2.1.toNat+1) a.2.1 (by omega)
   simp only[hc,decide_true,cond_true]
   omega
  ·simp[hc]
 have hrin:rin (aY l a.2.1) b.2.1=some ((aY l a.2.1).contains b.2.1,()):=by
  unfold rin
  rw[decide_eq_true hlen];rfl
 simp only[hl,cond_true,Option.bind_some,hrin,vK]
 by_cases h1:a.1=1
 ·have e3:(a.1==3)=false:=by rw[h1];rfl
  have e1:(a.1==1)=true:=by rw[h1];rfl
  rw[e1,e3]
  cases a.1==4 <;> cases a==b <;> rfl
 ·have e1:(a.1==1)=false:=by simpa using h1
  rw[e1]
  cases a.1==4 <;> cases a.1==3 <;> cases b.1==3 <;> cases a.1==2 <;> cases a==b <;> rfl
end Go.Pli

namespace Go.Pli
open Go Go.PM
theorem wO {α:Type} {p:Nat→α→Bool}:∀(l:List α) (k:Nat),mX p k l=true↔∀(j:Nat) x,l[j]? =some x→p (k+j) x=true
 | [],k=>by simp[mX]
 | x::l,k=>by
  simp only[mX,Bool.and_eq_true]
  rw[wO l (k+1)]
  constructor
  ·intro⟨h1,h2⟩ j y hy
   cases j with
   | zero=>simp at hy;subst hy;simpa using h1
   | succ j=>
    have:=h2 j y (by simpa using hy)
    rwa [Nat.add_assoc,Nat.add_comm 1 j] at this
  ·intro h
   refine⟨by simpa using h 0 x rfl,fun j y hy=>?_⟩
   have:=h (j+1) y (by simpa using hy)
   rwa [Nat.add_assoc,Nat.add_comm 1 j]
theorem vU {α σ R:Type} {L:σ→(σ→Option R)→Option R} {xs:List α} {st:Nat→σ} {p:Nat→α→Bool} {ex fin:Option R}
  (h1:∀(k:Nat) (x:α) (rec),xs[k]? =some x→k<xs.length→L (st k) rec=bif p k x then rec (st (k+1)) else ex)
  (h2:∀rec,L (st xs.length) rec=fin):∀F:Nat,xs.length<F→aA L F (st 0)=bif mX p 0 xs then fin else ex:=by
 have key:∀(l pre:List α) (F:Nat),xs=pre++l→l.length<F→aA L F (st pre.length)=bif mX p pre.length l then fin else ex:=by
  intro l
  induction l with
  | nil=>
   intro pre F hx hF
   obtain⟨F,rfl⟩:∃n,F=n+1:=⟨F - 1,by simp at hF;omega⟩
   rw[List.append_nil] at hx
   subst hx
   rw[aD,h2]
   rfl
  | cons x l ih=>
   intro pre F hx hF
   obtain⟨F,rfl⟩:∃n,F=n+1:=⟨F - 1,by simp at hF;omega⟩
   have hk:xs[pre.length]? =some x:=by rw[hx];simp
   have hl:pre.length<xs.length:=by rw[hx];simp
   rw[aD,h1 pre.length x _ hk hl]
   have:=ih (pre++[x]) F (by rw[hx];simp) (by simp only[List.length_cons] at hF;omega)
   simp only[List.length_append,List.length_cons,List.length_nil,Nat.zero_add] at this
   rw[this]
   simp only[mX]
   cases p pre.length x <;> rfl
 intro F hF
 exact key xs [] F rfl hF
theorem iI {q:Nat→Bool} {n:Nat}:(List.range n).all q=true↔∀k,k<n→q k=true:=by
 simp[List.all_eq_true]
theorem aGS {σ R:Type} {L:σ→(σ→Option R)→Option R} {N:Nat} {st:Nat→σ} {q:Nat→Bool} {ex fin:Option R}
  (h1:∀(k:Nat) (rec),k<N→(∀j,j<k→q j=true)→L (st k) rec=bif q k then rec (st (k+1)) else ex)
  (h2:∀rec,L (st N) rec=fin):∀F:Nat,N<F→aA L F (st 0)=bif (List.range N).all q then fin else ex:=by
 have key:∀(d k F:Nat),k+d=N→d<F→(∀j,j<k→q j=true)→aA L F (st k)=bif (List.range N).all q then fin else ex:=by
  intro d
  induction d with
  | zero=>
   intro k F hk hF hh
   obtain⟨F,rfl⟩:∃n,F=n+1:=⟨F - 1,by omega⟩
   have:k=N:=by omega
   subst this
   rw[aD,h2,iI.2 hh]
   rfl
  | succ d ih=>
   intro k F hk hF hh
   obtain⟨F,rfl⟩:∃n,F=n+1:=⟨F - 1,by omega⟩
   rw[aD,h1 k _ (by omega) hh]
   cases hq:q k with
   | true=>
    simp only[cond_true]
    refine ih (k+1) F (by omega) (by omega) fun j hj=>?_
    rcases Nat.lt_or_ge j k with h | h
    ·exact hh j h
    ·have:j=k:=by omega
     subst this;exact hq
   | false=>
    have:(List.range N).all q=false:=by
     cases ha:(List.range N).all q with
     | false=>rfl
     | true=>rw[iI.1 ha k (by omega)] at hq;cases hq
    rw[this]
    rfl
 intro F hF
 exact key N 0 F (by omega) hF fun j hj=>by omega
theorem aCY {R:Type} {L:Bool×Int×Unit→(Bool×Int×Unit→Option R)→Option R} {N:Nat} {q:Nat→Bool} {fin:Bool→Option R}
  (h1:∀(k:Nat) (rec),k<N→(∀j,j<k→q j=true)→L (true,(k:Int),()) rec=rec (q k,((k+1:Nat):Int),())∨(q k=false∧L (true,(k:Int),()) rec=fin false))
  (h0:∀(k:Nat) rec,k≤N→L (false,(k:Int),()) rec=fin false) (h2:∀rec,L (true,(N:Int),()) rec=fin true):
  ∀(F:Nat) (b:Bool),N+1<F→aA L F (b,((0:Nat):Int),())=fin (b&&(List.range N).all q):=by
 have hf:∀(F k:Nat),0<F→k≤N→aA L F (false,(k:Int),())=fin false:=fun F k hF hk=>by
  obtain⟨F,rfl⟩:∃n,F=n+1:=⟨F - 1,by omega⟩
  rw[aD,h0 k _ hk]
 have key:∀(d k F:Nat),k+d=N→d+1<F→(∀j,j<k→q j=true)→aA L F (true,(k:Int),())=fin ((List.range N).all q):=by
  intro d
  induction d with
  | zero=>
   intro k F hk hF hh
   obtain⟨F,rfl⟩:∃n,F=n+1:=⟨F - 1,by omega⟩
   have:k=N:=by omega
   subst this
   rw[aD,h2,iI.2 hh]
  | succ d ih=>
   intro k F hk hF hh
   obtain⟨F,rfl⟩:∃n,F=n+1:=⟨F - 1,by omega⟩
   rw[aD]
   cases hq:q k with
   | true=>
    rcases h1 k (aA L F) (by omega) hh with h | ⟨h,_⟩
    ·rw[h,hq]
     refine ih (k+1) F (by omega) (by omega) fun j hj=>?_
     rcases Nat.lt_or_ge j k with h | h
     ·exact hh j h
     ·have:j=k:=by omega
      subst this;exact hq
    ·rw[hq] at h;cases h
   | false=>
    have:(List.range N).all q=false:=by
     cases ha:(List.range N).all q with
     | false=>rfl
     | true=>rw[iI.1 ha k (by omega)] at hq;cases hq
    rw[this]
    rcases h1 k (aA L F) (by omega) hh with h | ⟨_,h⟩
    ·rw[h,hq]
     exact hf F (k+1) (by omega) (by omega)
    ·exact h
 intro F b hF
 cases b with
 | true=>simpa using key N 0 F (by omega) hF fun j hj=>by omega
 | false=>simpa using hf F 0 (by omega) (by omega)
structure Fit (m:Im):Prop where
 classes:m.1.length≤8
 statics:cQ m.2.1 8=true
 ints:m.2.2.1.length≤16
 methods:m.2.2.2.1.length≤12
 cls:∀c∈m.1,iclass c=true
 mts:∀x∈m.2.2.2.1,imethod x=true
 entries:eO m.2.2.2.2.1 12 11=true
 stack:aR m.2.2.2.2.2.1 4096=true
 heap:aR m.2.2.2.2.2.2.1 4096=true
theorem bE {m:Im} (h:bC m=true):Fit m:=by
 simp only[bC,Bool.and_eq_true,decide_eq_true_eq,List.all_eq_true] at h
 obtain⟨h1,h2,h3,h4,h5,h6,h7,h8,h9⟩:=h
 exact⟨by omega,h2,by omega,by omega,h5,h6,h7,h8,h9⟩
theorem rL {c:Cl} (h:iclass c=true):(-1≤c.1∧c.1<8)∧(c.2.1.length≤8∧∀t∈c.2.1,ityp t=true)∧(c.2.2.1.length≤4∧∀n∈c.2.2.1,0≤n∧n≤11):=by
 simp only[iclass,cQ,eO,aR,Bool.and_eq_true,decide_eq_true_eq,List.all_eq_true] at h
 obtain⟨h1,h2,⟨h3,h4⟩,h5,h6⟩:=h
 exact⟨⟨h1,h2⟩,⟨by omega,h4⟩,⟨by omega,h6⟩⟩
theorem jY {x:Mt} (h:imethod x=true):(x.1.length≤4∧∀t∈x.1,ityp t=true)∧(x.2.1.length≤8∧∀t∈x.2.1,ityp t=true)∧ityp x.2.2.1=true∧(x.2.2.2.1.length≤64∧∀i∈x.2.2.2.1,dQ i=true)∧
  (0≤x.2.2.2.2.1∧x.2.2.2.2.1≤8)∧(0≤x.2.2.2.2.2.1∧x.2.2.2.2.2.1≤4096)∧(x.2.2.2.2.2.2.1.length≤64∧∀n∈x.2.2.2.2.2.2.1,0≤n∧n≤4096):=by
 simp only[imethod,cQ,eO,aR,Bool.and_eq_true,decide_eq_true_eq,List.all_eq_true] at h
 obtain⟨⟨h1,h2⟩,⟨h3,h4⟩,h5,h6,h7,h8,h9,h10,h11⟩:=h
 exact⟨⟨by omega,h2⟩,⟨by omega,h4⟩,h5,⟨by omega,h7⟩,h8,h9,⟨by omega,h11⟩⟩
theorem oG {m:Im} {c:Int} (h0:0≤c) (h1:c<(m.1.length:Int)):bH m c∈m.1:=by
 have h:c.toNat<m.1.length:=by omega
 unfold bH
 rw[getD_some (List.getElem?_eq_getElem h)]
 exact List.getElem_mem h
theorem jP {m:Im} {f:Int} (h0:0≤f) (h1:f<(m.2.2.2.1.length:Int)):aC m f∈m.2.2.2.1:=by
 have h:f.toNat<m.2.2.2.1.length:=by omega
 unfold aC
 rw[getD_some (List.getElem?_eq_getElem h)]
 exact List.getElem_mem h
theorem aGB {m:Im} {c:Int} (h:lW m c=true):Fit m∧0≤c∧c<(m.1.length:Int)∧∀k:Nat,(k:Int)<c→cO m (k:Int)=true:=by
 simp only[lW,Bool.and_eq_true,decide_eq_true_eq] at h
 obtain⟨h1,h2,h3,h4⟩:=h
 exact⟨bE h1,h2,h3,fun k hk=>iI.1 h4 k (by omega)⟩
theorem mU {m:Im} (h:mY m=true) {c:Int} (h0:0≤c) (h1:c<(m.1.length:Int)):cO m c=true:=by
 have:=iI.1 h c.toNat (by omega)
 rwa [show ((c.toNat:Nat):Int)=c by omega] at this
theorem aOE {m:Im} (hf:bC m=true) (h:mY m=true) {c:Int} (h0:0≤c) (h1:c<(m.1.length:Int)):lW m c=true:=by
 simp only[lW,Bool.and_eq_true,decide_eq_true_eq]
 exact⟨hf,h0,h1,iI.2 fun k hk=>mU h (by omega) (by omega)⟩
theorem aJx {m:Im} {c:Int} (h:cO m c=true):bX m.1 c<c:=by
 simp only[cO,Bool.and_eq_true,decide_eq_true_eq] at h
 exact h.1
theorem nY {m:Im} {c:Int} (h:cO m c=true) {k:Nat} {f:Int} (hk:(bH m c).2.2.1[k]? =some f):(0≤f∧f<(m.2.2.2.1.length:Int))∧0<(aC m f).1.length:=by
 simp only[cO,Bool.and_eq_true,decide_eq_true_eq] at h
 obtain⟨_,_,_,_,h5⟩:=h
 have:=(wO _ 0).1 h5 k f hk
 simp only[rD,sin,aAl,Bool.and_eq_true,decide_eq_true_eq] at this
 exact⟨this.1,this.2.1.1⟩
theorem aGj {m:Im} {c:Int} (h0:0≤c) (h1:c<(m.1.length:Int)) (hs:bX m.1 c<c):kup m.1 c=bX m.1 c:=by
 unfold kup
 have a:¬c<0:=by omega
 have b:¬c≥(m.1.length:Int):=by omega
 have d:¬bX m.1 c≥c:=by omega
 simp[a,b,d]
theorem aFh {m:Im} {c:Int} (h0:0≤c) (h1:c<(m.1.length:Int)) (hs:bX m.1 c<c):dR m c=(bH m c).2.1.length+gO m c:=by
 unfold dR gO
 rw[cF h0,aGj h0 h1 hs]
 rfl
theorem aUN (n c:Int):aUx n c=some (sin n c,()):=by
 unfold aUx sin
 have:decide (n≥0)=decide (0≤n):=rfl
 rw[this]
 cases decide (0≤n) <;> rfl
theorem aOC (l:List (List Tp)):∃M,∀x∈l,x.length≤M:=by
 induction l with
 | nil=>exact⟨0,by simp⟩
 | cons x l ih=>
  obtain⟨M,hM⟩:=ih
  exact⟨x.length+M,fun y hy=>by
   rcases List.mem_cons.1 hy with rfl | hy
   ·omega
   ·have:=hM y hy;omega⟩
theorem aTb (m:Im) (l:List (List Tp)) (h:aUd m l):∃k,aST k m l=some (oE m l,()):=by
 obtain⟨M,hM⟩:=aOC l
 have hl:l.length≤lenMax∧∀x∈l,x.length≤lenMax:=⟨h.2.1.1,fun x hx=>(h.2.1.2 x hx).1⟩
 refine⟨l.length+M+1,?_⟩
 unfold aST oE
 have key:aA (aE6 m l (l.length+M+1)) (l.length+M+1) ((0:Int),())=bif l.all (cZ m) then some (true,()) else some (false,()):=by
  refine dD (st:=fun k=>((k:Int),())) (p:=cZ m) (fun k x rec hk hlt=>?_) (fun rec=>?_) _ (by omega)
  ·rw[aE6]
   simp only[dlt hlt,dge,Bool.and_self,cond_true]
   have hx:x∈l:=List.mem_of_getElem? hk
   refine dD (st:=fun k=>((k:Int),())) (p:=fun t=>dY t (m.1.length:Int)) (fun j t rec2 hj hlj=>?_) (fun rec2=>?_) _ (by have:=hM x hx;omega)
   ·rw[aKl]
    simp only[Int.toNat_natCast,getD_some hk,dlt hlj,dge,Bool.and_self,cond_true,getD_some hj,aN hlj (hl.2 x hx)]
    cases dY t (m.1.length:Int) <;> rfl
   ·rw[aKl]
    simp only[Int.toNat_natCast,getD_some hk,bB,cond_false,aN hlt hl.1]
  ·rw[aE6]
   simp only[bB,cond_false]
 rw[key]
 cases l.all (cZ m) <;> rfl
theorem aQC (m:Im) (l:List Tp) (h:aQI m l):∃k,aL3 k m l=some (nP m l,()):=by
 refine⟨l.length+1,?_⟩
 unfold aL3 nP cZ
 have key:aA (aAZ m l) (l.length+1) ((0:Int),())=bif (l.all fun t=>dY t (m.1.length:Int)) then some (true,()) else some (false,()):=by
  refine dD (st:=fun k=>((k:Int),())) (p:=fun t=>dY t (m.1.length:Int)) (fun k x rec hk hlt=>?_) (fun rec=>?_) _ (by omega)
  ·rw[aAZ]
   simp only[dlt hlt,dge,Bool.and_self,cond_true,Int.toNat_natCast,getD_some hk,aN hlt h.2.1.1,aAL]
   cases dY x (m.1.length:Int) <;> rfl
  ·rw[aAZ]
   simp only[bB,cond_false]
 rw[key]
 cases l.all fun t=>dY t (m.1.length:Int) <;> rfl
theorem aDD (m:Im) (hf:Fit m) (c:Int) (hc:c≤(m.1.length:Int)) (hh:∀k:Nat,(k:Int)<c→cO m (k:Int)=true) (sl:List Int):∀(n:Nat) (s:Int) (acc:Nat),s.toNat<n→s<c→acc+8*n≤1000→
  aA (zO m (sl,())) (n+1) ((acc:Int),s,())=some (((acc+bK ((bQ m.1 s).map fun s=>(bH m s).2.1.length):Nat):Int),sl,())
 | 0,_,_,h,_,_=>by omega
 | n+1,s,acc,h,hs,hb=>by
  rw[aD,zO]
  by_cases h0:s<0
  ·have:¬s≥0:=by omega
   rw[bO h0]
   simp[this,bK]
  ·have h1:s≥0:=by omega
   have h1':0≤s:=h1
   have h2:s<(m.1.length:Int):=by omega
   have hcl:cO m s=true:=by
    have:=hh s.toNat (by omega)
    rwa [show ((s.toNat:Nat):Int)=s by omega] at this
   have hsup:=aJx hcl
   rw[cF h1',aGj h1' h2 hsup]
   have hcls:=(rL (hf.cls _ (oG h1' h2))).2.1.1
   simp only[h1,h2,decide_true,Bool.and_self,cond_true]
   have hd:m.1.getD s.toNat zCl=bH m s:=rfl
   rw[hd,cD (by omega) (by omega)]
   have e:((acc:Int)+((bH m s).2.1.length:Int))=((acc+(bH m s).2.1.length:Nat):Int):=by omega
   rw[e]
   have hsd:(bH m s).1=bX m.1 s:=rfl
   rw[hsd]
   by_cases hk:bX m.1 s<0
   ·rw[aD,zO,bO hk]
    have:¬bX m.1 s≥0:=by omega
    simp[this,bK]
   ·rw[aDD m hf c hc hh sl n (bX m.1 s) _ (by omega) (by omega) (by omega)]
    simp only[List.map_cons,bK]
    rw[Nat.add_assoc]
theorem aQu (m:Im) (c:Int) (r) (h:pN m c=some r):∃k,aMr k m c=some r:=by
 unfold pN at h
 cases hp:lW m c&&decide (bX m.1 c<c) <;> simp only[hp,cond_true,cond_false] at h
 ·cases h
 injection h with h
 subst h
 simp only[Bool.and_eq_true,decide_eq_true_eq] at hp
 obtain⟨hf,h0,h1,hh⟩:=aGB hp.1
 have hs:=hp.2
 have hcl8:=hf.classes
 refine⟨(bX m.1 c).toNat+1+1,?_⟩
 have hd:(m.1.getD c.toNat zCl).1=bX m.1 c:=rfl
 have hloop:=aDD m hf c (by omega) hh (bR m c) ((bX m.1 c).toNat+1) (bX m.1 c) 0 (by omega) hs (by omega)
 unfold aMr
 rw[hd]
 simp only[h0,h1,decide_true,Bool.and_self,cond_true]
 have hup:(bif decide (bX m.1 c≥0) then bif decide (0≤bX m.1 c)&&decide (bX m.1 c<(m.1.length:Int)) then (some (.inl ((m.1.getD (bX m.1 c).toNat zCl).2.2.1,())):Option ((List Int×Unit)⊕(Int×List Int×Unit))) else none else some (.inl (([]:List Int),())))=some (.inl (bR m c,())):=by
  unfold bR
  by_cases hk:0≤bX m.1 c
  ·have a:bX m.1 c≥0:=hk
   have b:bX m.1 c<(m.1.length:Int):=by omega
   simp only[a,b,decide_true,Bool.and_self,cond_true]
   rfl
  ·have a:¬bX m.1 c≥0:=hk
   simp only[a,decide_false,cond_false]
 have hcast:∀x y:Nat,(x<y)=((x:Int)<(y:Int)):=fun x y=>by simp
 rw[hup]
 simp only[Option.bind_some]
 unfold gO
 simpa using hloop
theorem aSI (m:Im) (c f:Int) (r) (h:aCN m c f=some r):aOl m c f=some r:=by
 unfold aCN at h
 cases hp:sin f (m.2.2.2.1.length:Int) <;> simp only[hp,cond_true,cond_false] at h
 ·cases h
 injection h with h
 subst h
 simp only[sin,Bool.and_eq_true,decide_eq_true_eq] at hp
 unfold aOl aAl
 have hd:m.2.2.2.1.getD f.toNat zMt=aC m f:=rfl
 rw[hd]
 simp only[hp.1,hp.2,decide_true,Bool.and_self,cond_true]
 by_cases hl:0<(aC m f).1.length
 ·have a:((aC m f).1.length:Int)>0:=by omega
  have b:(0:Int)<((aC m f).1.length:Int):=by omega
  simp[hl]
 ·have a:¬((aC m f).1.length:Int)>0:=by omega
  simp[hl]
theorem sM {α:Type} (l:List α) (n:Nat):(l.take l.length).drop n=l.drop n:=by rw[List.take_length]
theorem aQa (a b:Mt):aLL a b=some (aB2 a b,()):=by
 unfold aLL aB2 aEE eqL
 rw[rM,sM,sM]
 by_cases ha:0<a.1.length
 ·have a1:(a.1.length:Int)>0:=by omega
  have a2:(1:Int)≤(a.1.length:Int):=by omega
  by_cases hb:0<b.1.length
  ·have b1:(b.1.length:Int)>0:=by omega
   have b2:(1:Int)≤(b.1.length:Int):=by omega
   simp only[ha,hb,a1,a2,b1,b2,decide_true,Bool.true_and,cond_true,Int.le_refl]
   cases a.1.drop 1==b.1.drop 1 <;> rfl
  ·have b1:¬(b.1.length:Int)>0:=by omega
   simp[ha,hb]
 ·have a1:¬(a.1.length:Int)>0:=by omega
  simp[ha]
end Go.Pli

namespace Go.Pli
open Go Go.PM
theorem aQk {m:Im} {c:Int} {k:Nat} {f:Int} (hf:Fit m) (h0:0≤c) (h1:c<(m.1.length:Int)) (hk:(bH m c).2.2.1[k]? =some f):0≤f∧f≤11:=
 (rL (hf.cls _ (oG h0 h1))).2.2.2 f (List.mem_of_getElem? hk)
theorem aGX {m:Im} {c:Int} (hh:∀k:Nat,(k:Int)<c→cO m (k:Int)=true) (hs:bX m.1 c<c) {k:Nat} (hk:k<(bR m c).length):
  (0≤(bR m c).getD k 0∧(bR m c).getD k 0<(m.2.2.2.1.length:Int))∧0<(aC m ((bR m c).getD k 0)).1.length:=by
 unfold bR at hk⊢
 by_cases h0:0≤bX m.1 c
 ·simp only[h0,decide_true,cond_true] at hk⊢
  have hcl:cO m (bX m.1 c)=true:=by
   have:=hh (bX m.1 c).toNat (by omega)
   rwa [show (((bX m.1 c).toNat:Nat):Int)=bX m.1 c by omega] at this
  have hg:=List.getElem?_eq_getElem hk
  rw[getD_some hg]
  exact nY hcl hg
 ·simp[h0] at hk
theorem aOx (m:Im) (c:Int) (r) (h:rW m c=some r):∃k,aMJ k m c=some r:=by
 unfold rW at h
 cases hp:lW m c <;> simp only[hp,cond_true,cond_false] at h
 ·cases h
 injection h with h
 subst h
 obtain⟨hf,h0,h1,hh⟩:=aGB hp
 refine⟨100,?_⟩
 obtain⟨⟨c1,c2⟩,⟨c3,c4⟩,⟨c5,c6⟩⟩:=rL (hf.cls _ (oG h0 h1))
 unfold aMJ cO
 have hd:m.1.getD c.toNat zCl=bH m c:=rfl
 have hd2:(bH m c).1=bX m.1 c:=rfl
 rw[hd,hd2]
 simp only[h0,h1,decide_true,Bool.and_self,cond_true]
 by_cases hs:bX m.1 c<c
 ·have hns:¬bX m.1 c≥c:=by omega
  simp only[hs,hns,decide_true,decide_false,cond_false,Bool.true_and]
  have hall:oE m [(bH m c).2.1]=cZ m (bH m c).2.1:=by simp[oE]
  rw[hall]
  cases hg:cZ m (bH m c).2.1
  ·rfl
  ·have hab:pN m c=some ((gO m c:Int),bR m c,()):=by
    unfold pN
    simp[hp,hs]
   rw[hab,aFh h0 h1 hs]
   simp only[Bool.not_true,cond_false,Option.bind_some,Bool.true_and]
   have hup8:gO m c≤100:=by
    have key:∀(n:Nat) (s:Int),s.toNat<n→s<(m.1.length:Int)→(∀k:Nat,(k:Int)≤s→cO m (k:Int)=true)→bK ((bQ m.1 s).map fun s=>(bH m s).2.1.length)≤8*n:=by
     intro n
     induction n with
     | zero=>intro s h;omega
     | succ n ih=>
      intro s hn hsl hk
      by_cases hneg:s<0
      ·rw[bO hneg];simp[bK]
      ·have hcs:=hk s.toNat (by omega)
       rw[show ((s.toNat:Nat):Int)=s by omega] at hcs
       have hsup:=aJx hcs
       rw[cF (by omega),aGj (by omega) hsl hsup]
       simp only[List.map_cons,bK]
       have hb:=(rL (hf.cls _ (oG (m:=m) (c:=s) (by omega) hsl))).2.1.1
       by_cases hneg2:bX m.1 s<0
       ·rw[bO hneg2];simp[bK];omega
       ·have:=ih (bX m.1 s) (by omega) (by omega) (fun k hk2=>hk k (by omega))
        omega
    have hcl:=hf.classes
    have:=key ((bX m.1 c).toNat+1) (bX m.1 c) (by omega) (by omega) (fun k hk=>hh k (by omega))
    unfold gO
    omega
   rw[cD (by omega) (by omega)]
   by_cases h8:(bH m c).2.1.length+gO m c≤8
   ·have h8':¬((gO m c:Int)+((bH m c).2.1.length:Int))>8:=by omega
    simp only[h8,h8',decide_true,decide_false,cond_false,Bool.true_and]
    by_cases hu:(bR m c).length≤(bH m c).2.2.1.length
    ·have hu':¬((bH m c).2.2.1.length:Int)<((bR m c).length:Int):=by omega
     simp only[hu,hu',decide_true,decide_false,cond_false,Bool.true_and]
     have key:aA (aAp m c ((gO m c:Int),bR m c,())) 100 ((0:Int),())=bif mX (rD m c) 0 (bH m c).2.2.1 then some (true,()) else some (false,()):=by
      refine vU (st:=fun k=>((k:Int),())) (p:=rD m c) (fun k f rec hk hlt=>?_) (fun rec=>?_) _ (by omega)
      ·rw[aAp]
       have hfr:=aQk hf h0 h1 hk
       simp only[hd,dlt hlt,dge,Bool.and_self,cond_true,Int.toNat_natCast,getD_some hk,aN hlt (show (bH m c).2.2.1.length≤lenMax by simp only[lenMax];omega)]
       unfold rD
       cases hsin:sin f (m.2.2.2.1.length:Int)
       ·rfl
       ·have hsf:aCN m c f=some (aAl m c f,()):=by unfold aCN;rw[hsin];rfl
        rw[hsf]
        simp only[Bool.not_true,cond_false,Option.bind_some,Bool.true_and]
        cases hfb:aAl m c f
        ·rfl
        ·have hsr:0≤f∧f<(m.2.2.2.1.length:Int):=by simpa[sin] using hsin
         simp only[Bool.not_true,cond_false,Bool.true_and]
         by_cases hku:k<(bR m c).length
         ·obtain⟨⟨u1,u2⟩,u3⟩:=aGX hh hs hku
          simp only[dlt hku,hku,cond_true,hsr.1,hsr.2,u1,u2,decide_true,Bool.and_self,Bool.not_true,Bool.false_or]
          have e1:m.2.2.2.1.getD f.toNat zMt=aC m f:=rfl
          have e2:m.2.2.2.1.getD ((bR m c).getD k 0).toNat zMt=aC m ((bR m c).getD k 0):=rfl
          rw[e1,e2]
          unfold aB2
          cases aEE (aC m f) (aC m ((bR m c).getD k 0)) <;> rfl
         ·have:¬(k:Int)<((bR m c).length:Int):=by omega
          simp[this,hku]
      ·rw[aAp]
       simp only[hd,bB,cond_false]
     rw[key]
     cases mX (rD m c) 0 (bH m c).2.2.1 <;> rfl
    ·have hu':((bH m c).2.2.1.length:Int)<((bR m c).length:Int):=by omega
     simp[hu,hu']
   ·have h8':((gO m c:Int)+((bH m c).2.1.length:Int))>8:=by omega
    simp[h8,h8']
 ·have hns:bX m.1 c≥c:=by omega
  simp[hs,hns]
theorem aF1 {m:Im} {c:Int} (_:Fit m) (_:0≤c) (_:c<(m.1.length:Int)) (hcB:cO m c=true):dR m c≤8:=by
 simp only[cO,Bool.and_eq_true,decide_eq_true_eq] at hcB
 exact hcB.2.2.1
theorem aNH (c:Int) (m:Im) (r) (h:qR c m=some r):aJ0 c m=some r:=by
 unfold qR at h
 cases hp:bC m&&(mY m&&sin c (m.1.length:Int)) <;> simp only[hp,cond_true,cond_false] at h
 ·cases h
 injection h with h
 subst h
 simp only[Bool.and_eq_true,sin,decide_eq_true_eq] at hp
 obtain⟨hi,ha,h0,h1⟩:=hp
 have hcB:=mU ha h0 h1
 have hs:=aJx hcB
 have hpc:=aOE hi ha h0 h1
 have hab:pN m c=some ((gO m c:Int),bR m c,()):=by unfold pN;simp[hpc,hs]
 have hsm:=aF1 (bE hi) h0 h1 hcB
 rw[aFh h0 h1 hs] at hsm⊢
 unfold aJ0
 rw[hab]
 have hd:m.1.getD c.toNat zCl=bH m c:=rfl
 rw[hd]
 simp only[Option.bind_some,h0,h1,decide_true,Bool.and_self,cond_true]
 rw[cD (by omega) (by omega)]
 congr 2
 omega
theorem aPN (m:Im) (x:Mt) (i:Ins) (f:Im×Unit) (r) (h:zD m x i f=some r):aMg m x i f=some r:=by
 unfold zD at h
 cases hp:nA m x&&f.1==m <;> simp only[hp,cond_true,cond_false] at h
 ·cases h
 injection h with h
 subst h
 simp only[Bool.and_eq_true,beq_iff_eq,nA] at hp
 obtain⟨⟨hi,ha,hx⟩,hfm⟩:=hp
 obtain⟨⟨x1,_⟩,⟨x2,_⟩,_,⟨x4,_⟩,_⟩:=jY hx
 unfold aMg bI
 rw[hfm]
 have hw:IntKind.i64.wrap ((x.1.length:Int)+(x.2.1.length:Int))=((x.1.length+x.2.1.length:Nat):Int):=by
  rw[cD (by omega) (by omega)];omega
 rw[hw]
 have h27:∀a:Bool,(bif a then (bif sin i.2.1 (m.1.length:Int) then (qR i.2.1 m).bind fun r9=>some (sin i.2.2.1 r9.1,()) else some (false,())) else none)=
   bif a then some (sin i.2.1 (m.1.length:Int)&&sin i.2.2.1 (dR m i.2.1:Int),()) else (none:Option (Bool×Unit)):=fun a=>by
  cases a
  ·rfl
  ·simp only[cond_true]
   cases hsn:sin i.2.1 (m.1.length:Int)
   ·rfl
   ·have:qR i.2.1 m=some ((dR m i.2.1:Int),()):=by unfold qR;simp[hi,ha,hsn]
    rw[this];rfl
 have h27':=h27 true
 simp only[cond_true] at h27'
 have h32:(bif sin i.2.1 (m.1.length:Int) then (bif decide (0≤i.2.1)&&decide (i.2.1<m.1.length) then (some (sin i.2.2.1 ((m.1.getD i.2.1.toNat zCl).2.2.1.length:Int),()):Option (Bool×Unit)) else none) else some (false,()))=
   some (sin i.2.1 (m.1.length:Int)&&sin i.2.2.1 ((bH m i.2.1).2.2.1.length:Int),()):=by
  cases hsn:sin i.2.1 (m.1.length:Int)
  ·rfl
  ·have:0≤i.2.1∧i.2.1<(m.1.length:Int):=by simpa[sin] using hsn
   simp only[cond_true,this.1,this.2,decide_true,Bool.and_self,Bool.true_and]
   rfl
 simp only[h27',h32]
 cases i.1==1 <;> cases i.1==3 <;> cases i.1==4 <;> cases i.1==18 <;> cases i.1==19 <;> try rfl
 all_goals (cases i.1==22 <;> cases i.1==34 <;> cases i.1==27 <;> cases i.1==28 <;> cases i.1==29 <;> cases i.1==30 <;> cases i.1==31 <;> cases i.1==32 <;> rfl)
theorem aNf (m:Im) (x:Mt) (r) (h:tW m x=some r):∃k,aIA k m x=some r:=by
 unfold tW at h
 cases hp:nA m x <;> simp only[hp,cond_true,cond_false] at h
 ·cases h
 injection h with h
 subst h
 have hp':=hp
 simp only[Bool.and_eq_true,nA] at hp
 obtain⟨hi,ha,hx⟩:=hp
 obtain⟨⟨x1,_⟩,⟨x2,_⟩,_,⟨x4,_⟩,_⟩:=jY hx
 refine⟨100,?_⟩
 have key:aA (wJ m x) 100 ((0:Int),())=bif x.2.2.2.1.all (bI m x) then some (true,()) else some (false,()):=by
  refine dD (st:=fun k=>((k:Int),())) (p:=bI m x) (fun k i rec hk hlt=>?_) (fun rec=>?_) _ (by omega)
  ·rw[wJ]
   have hsi:zD m x i (m,())=some (bI m x i,()):=by unfold zD;simp[hp']
   simp only[dlt hlt,dge,Bool.and_self,cond_true,Int.toNat_natCast,getD_some hk,aN hlt (show x.2.2.2.1.length≤lenMax by simp only[lenMax];omega),hsi,Option.bind_some]
   cases bI m x i <;> rfl
  ·rw[wJ]
   simp only[bB,cond_false]
 unfold aIA cJ
 rw[key,cD (by omega) (by omega),aGt]
 have hs1:oE m [x.1,x.2.1]=(cZ m x.1&&cZ m x.2.1):=by simp[oE]
 have hs2:oE m [[x.2.2.1]]=dY x.2.2.1 (m.1.length:Int):=by simp[oE,cZ]
 have hret:((x.2.2.1.1==5)&&((x.2.2.1.2.1==0)&&true))=(x.2.2.1==(5,0,())):=rM x.2.2.1 (5,0,())
 rw[hs1,hs2,hret]
 have hz:((x.2.2.2.1.length:Int)==0)=decide (x.2.2.2.1.length=0):=by
  by_cases hz:x.2.2.2.1.length=0
  ·simp[hz]
  ·have:¬((x.2.2.2.1.length:Int)=0):=by omega
   simp[hz]
 have h8:decide ((x.1.length:Int)+(x.2.1.length:Int)>8)= !decide (x.1.length+x.2.1.length≤8):=by
  by_cases h8:x.1.length+x.2.1.length≤8
  ·have:¬((x.1.length:Int)+(x.2.1.length:Int)>8):=by omega
   simp[h8,this]
  ·have:((x.1.length:Int)+(x.2.1.length:Int)>8):=by omega
   simp[h8,this]
 have hne:decide (x.2.2.2.1.length≠0)= !decide (x.2.2.2.1.length=0):=by by_cases h:x.2.2.2.1.length=0 <;> simp[h]
 rw[hz,h8,hne]
 cases cZ m x.1 <;> cases cZ m x.2.1 <;> cases x.2.2.1==(5,0,()) <;> cases dY x.2.2.1 (m.1.length:Int) <;> cases decide (x.2.2.2.1.length=0) <;> try rfl
 all_goals (cases decide (x.2.2.2.2.2.2.1.length=x.2.2.2.1.length) <;> cases decide (x.1.length+x.2.1.length≤8) <;> cases x.2.2.2.1.all (bI m x) <;> rfl)
theorem aNw (t:Tp):aID t=some (sentry1 t,()):=by
 unfold aID sentry1
 rw[Bool.and_true]
theorem aM6 (t:Tp) (f:Unit):aRo t f=some (tT t f,()):=rfl
theorem aOZ (m:Im) (f:Int) (r) (h:aFi m f=some r):aMq m f=some r:=by
 injection h with h
 subst h
 unfold aMq gV iZ
 have ha:((aC m f).1.any fun t=>tT t ())= !(aC m f).1.all sentry1:=yG sentry1 _
 have hd:m.2.2.2.1.getD f.toNat zMt=aC m f:=rfl
 rw[hd,ha]
 cases hs:sin f (m.2.2.2.1.length:Int)
 ·rfl
 ·have hr:0≤f∧f<(m.2.2.2.1.length:Int):=by simpa[sin] using hs
  simp only[hr.1,hr.2,decide_true,Bool.and_self,Bool.not_true,cond_true,cond_false,Bool.not_not]
  cases sentry1 (aC m f).2.2.1 <;> cases (aC m f).2.2.1.1==5 <;> cases (aC m f).1.all sentry1 <;> rfl
theorem aQG (m:Im) (_:aQN m):∃k,aML k m=some (dS m,()):=by
 refine⟨100,?_⟩
 unfold aML dS
 cases hi:bC m
 ·rfl
 have hf:=bE hi
 have hall:oE m [m.2.1]=cZ m m.2.1:=by simp[oE]
 rw[hall]
 simp only[Bool.not_true,cond_false,cond_true]
 unfold jQ
 cases cZ m m.2.1
 ·rfl
 simp only[Bool.not_true,cond_false,Bool.true_and]
 have hent:=hf.entries
 simp only[eO,Bool.and_eq_true,decide_eq_true_eq] at hent
 have h8:=hf.classes
 have h12:=hf.methods
 have key1:aA (aAj m) 100 ((0:Int),())=bif m.2.2.2.2.1.all (gV m) then some ((0:Int),()) else some ((3:Int),()):=by
  refine dD (st:=fun k=>((k:Int),())) (p:=gV m) (fun k f rec hk hlt=>?_) (fun rec=>?_) _ (by omega)
  ·rw[aAj]
   simp only[dlt hlt,dge,Bool.and_self,cond_true,Int.toNat_natCast,getD_some hk,aN hlt (show m.2.2.2.2.1.length≤lenMax by simp only[lenMax];omega),aFi,Option.bind_some]
   cases gV m f <;> rfl
  ·rw[aAj]
   simp only[bB,cond_false]
 have key3:aA (lZ m 100) 100 ((0:Int),())=bif mY m then (bif m.2.2.2.1.all (cJ m) then (bif m.2.2.2.2.1.all (gV m) then some ((0:Int),()) else some ((3:Int),())) else some ((3:Int),())) else some ((3:Int),()):=by
  cases hac:mY m with
  | false=>
   have:aA (lZ m 100) 100 ((0:Int),())=bif (List.range m.1.length).all (fun k=>cO m (k:Int)) then aA (vA m 100) 100 ((0:Int),()) else some ((3:Int),()):=by
    refine aGS (st:=fun k=>((k:Int),())) (q:=fun k=>cO m (k:Int)) (fun k rec hlt hh=>?_) (fun rec=>?_) _ (by omega)
    ·rw[lZ]
     have hpc:lW m (k:Int)=true:=by
      simp only[lW,Bool.and_eq_true,decide_eq_true_eq]
      exact⟨hi,by omega,by omega,iI.2 fun j hj=>hh j (by omega)⟩
     have hsc:rW m (k:Int)=some (cO m (k:Int),()):=by unfold rW;rw[hpc];rfl
     simp only[dlt hlt,cond_true,hsc,Option.bind_some,aN hlt (show m.1.length≤lenMax by simp only[lenMax];omega)]
     cases cO m (k:Int) <;> rfl
    ·rw[lZ]
     simp only[bB,cond_false]
   rw[this]
   have hac':(List.range m.1.length).all (fun k=>cO m (k:Int))=false:=hac
   rw[hac'];rfl
  | true=>
   have:aA (lZ m 100) 100 ((0:Int),())=bif (List.range m.1.length).all (fun k=>cO m (k:Int)) then aA (vA m 100) 100 ((0:Int),()) else some ((3:Int),()):=by
    refine aGS (st:=fun k=>((k:Int),())) (q:=fun k=>cO m (k:Int)) (fun k rec hlt hh=>?_) (fun rec=>?_) _ (by omega)
    ·rw[lZ]
     have hpc:lW m (k:Int)=true:=by
      simp only[lW,Bool.and_eq_true,decide_eq_true_eq]
      exact⟨hi,by omega,by omega,iI.2 fun j hj=>hh j (by omega)⟩
     have hsc:rW m (k:Int)=some (cO m (k:Int),()):=by unfold rW;rw[hpc];rfl
     simp only[dlt hlt,cond_true,hsc,Option.bind_some,aN hlt (show m.1.length≤lenMax by simp only[lenMax];omega)]
     cases cO m (k:Int) <;> rfl
    ·rw[lZ]
     simp only[bB,cond_false]
   rw[this]
   have hac':(List.range m.1.length).all (fun k=>cO m (k:Int))=true:=hac
   rw[hac']
   simp only[cond_true]
   refine dD (st:=fun k=>((k:Int),())) (p:=cJ m) (fun k x rec hk hlt=>?_) (fun rec=>?_) _ (by omega)
   ·rw[vA]
    have hpm:nA m x=true:=by
     simp only[nA,Bool.and_eq_true]
     exact⟨hi,hac,hf.mts x (List.mem_of_getElem? hk)⟩
    have hsm:tW m x=some (cJ m x,()):=by unfold tW;rw[hpm];rfl
    simp only[dlt hlt,dge,Bool.and_self,cond_true,Int.toNat_natCast,getD_some hk,hsm,Option.bind_some,aN hlt (show m.2.2.2.1.length≤lenMax by simp only[lenMax];omega)]
    cases cJ m x <;> rfl
   ·rw[vA]
    simp only[bB,cond_false]
    exact key1
 rw[key3]
 cases mY m <;> cases m.2.2.2.1.all (cJ m) <;> cases m.2.2.2.2.1.all (gV m) <;> rfl
end Go.Pli
