/- Sane, by the reference: what the functions come to. -/
import Derived.Test.YtcofionghgmldaaGreatPliL5A
namespace Go.Pli
open Go Go.PM
theorem nS {l:List Cl} {x:Int}:∀(n:Nat) (c:Int),c.toNat<n→x∈bW l c→0≤x∧x≤c
 | 0,_,h,_=>by omega
 | n+1,c,h,hx=>by
  by_cases hc:c<0
  ·rw[fA hc] at hx;simp at hx
  ·rw[gL (by omega)] at hx
   have hlt:=kS (l:=l) (c:=c) (by omega)
   rcases bZ.1 hx with rfl | hx
   ·omega
   ·by_cases hk:kup l c<0
    ·rw[fA hk] at hx;simp at hx
    ·have:=nS n (kup l c) (by omega) hx
     omega
theorem aFe (l:List Cl) (c:Int) (b:Tp):uC l (3,c,()) b=cH l (3,c,()) b:=by
 unfold uC cH
 have h4:((3:Int)==4)=false:=rfl
 have h3:((3:Int)==3)=true:=rfl
 simp only[h4,h3,aA,aB,eD]
 cases hb:b.1==3
 ·have hne:((((3:Int),c,()):Tp)==b)=false:=by
   rw[←tS]
   have:((3:Int)==b.1)=false:=by
    simp only[qR,ne_eq] at hb⊢
    exact fun h=>hb h.symm
   simp[this]
  simp[hne]
 ·simp only[aA,eD]
  unfold bV dD
  by_cases hc:c<(l.length:Int)
  ·simp only[hc,aM,aA,eD]
   cases hm:(bW l c).contains b.2.1
   ·simp
   ·have hm':b.2.1∈bW l c:=by simpa using hm
    have:=nS (c.toNat+1) c (by omega) hm'
    have a1:0≤b.2.1:=this.1
    have a2:b.2.1<(l.length:Int):=by omega
    simp[a1,a2]
  ·simp[hc]
theorem aMv {l:List Cl} {c x:Int} (h:x∈bV l c):0≤x∧x<(l.length:Int):=by
 unfold bV at h
 by_cases hc:c<(l.length:Int)
 ·simp only[hc,aM,aA] at h
  have:=nS (c.toNat+1) c (by omega) h
  omega
 ·simp[hc] at h
theorem aFG {l:List Cl} {c:Int}:(bV l c).length≤l.length+1:=by
 unfold bV
 by_cases hc:c<(l.length:Int)
 ·simp only[hc,aM,aA]
  have:=tB l (c.toNat+1) c (by omega)
  omega
 ·simp[hc]
theorem aIm (m:Im) (hf:Fit m) (rs:List Int) (hr:∀x∈rs,0≤x∧x<(m.1.length:Int)):∀(k F:Nat) (out:List Tp),k≤rs.length→k<100→k<F→out.length+8*k<10000→
  aE (aAD m (rs,())) F (out,(k:Int) - 1,())=some (out++(((rs.take k).reverse).map fun s=>(bN m s).2.1).flatten,())
 | 0,F,out,_,_,hF,_=>by
  obtain⟨F,rfl⟩:∃n,F=n+1:=⟨F - 1,by omega⟩
  rw[aX,aAD]
  simp
 | k+1,F,out,hk,hk100,hF,ho=>by
  obtain⟨F,rfl⟩:∃n,F=n+1:=⟨F - 1,by omega⟩
  have hlt:k<rs.length:=by omega
  have hg:=aU hlt
  have hmem:rs[k]∈rs:=eC hlt
  obtain⟨x0,x1⟩:=hr _ hmem
  have hcls:=(zI (hf.cls _ (aBB x0 x1))).2.1.1
  have hd:m.1.getD (rs[k]).toNat zCl=bN m rs[k]:=rfl
  have e:(((k+1:Nat):Int) - 1)=(k:Int):=by omega
  rw[aX,aAD,e]
  have hroom:out.length+(bN m rs[k]).2.1.length<rowMax:=by simp only[rowMax];omega
  have hge:decide ((k:Int)≥0)=true:=aQb k
  simp only[hge,dlt hlt,aI,aA,aR,getD_some hg,x0,x1,hd,hroom,aM]
  rw[cO (by omega) (by omega),aIm m hf rs hr k F _ (by omega) (by omega) (by omega) (by simp only[aW];omega)]
  rw[List.take_succ_eq_append_getElem hlt]
  simp only[List.reverse_append,List.reverse_cons,List.reverse_nil,pI,rA,dI,fW,cE]
theorem aIo (m:Im):∀l:List Int,(((l.reverse).map fun s=>(bN m s).2.1).flatten).length=bB (l.map fun s=>(bN m s).2.1.length)
 | []=>rfl
 | x::l=>by
  have ih:=aIo m l
  simp only[List.reverse_cons,jG,dI,List.map_nil,lI,fW,jH,bY,aW,bB]
  omega
theorem aM2 (m:Im) (c:Int) (r) (h:iI m c=some r):∃k,aFZ k m c=some r:=by
 unfold iI at h
 cases hi:cC m <;> simp only[hi,aA,aB] at h
 ·cases h
 injection h with h
 subst h
 have hf:=dA hi
 have h8:=hf.classes
 have hok:okL m.1=true:=by unfold okL;simp;omega
 have hlen:=aFG (l:=m.1) (c:=c)
 refine⟨100,?_⟩
 unfold aFZ iU
 rw[hok]
 simp only[aA,aJ]
 rw[cO (by omega) (by omega),aIm m hf _ (fun x hx=>aMv hx) (bV m.1 c).length 100 [] (by omega) (by omega) (by omega) (by simp;omega),iD]
 simp
theorem aFY {m:Im} {c:Int} (hi:cC m=true) (h1:c<(m.1.length:Int)):∃l:List Tp,iI m c=some (l,())∧l.length=iM m c:=by
 unfold iI
 rw[hi]
 refine⟨_,rfl,?_⟩
 rw[aIo]
 unfold iM bV
 simp[h1]
theorem aM3 (m:Im) (c:Int) (r) (h:uN m c=some r):∃k,aF0 k m c=some r:=by
 unfold uN at h
 cases hp:rY m c <;> simp only[hp,aA,aB] at h
 ·cases h
 injection h with h
 subst h
 obtain⟨hf,h0,h1,hh⟩:=aNg hp
 have hi:cC m=true:=by simp only[rY,aC] at hp;exact hp.1
 refine⟨100,?_⟩
 obtain⟨⟨c1,c2⟩,⟨c3,c4⟩,⟨c5,c6⟩⟩:=zI (hf.cls _ (aBB h0 h1))
 unfold aF0 iA
 have hd:m.1.getD c.toNat zCl=bN m c:=rfl
 have hd2:(bN m c).1=eG m.1 c:=rfl
 rw[hd,hd2]
 simp only[h0,h1,aM,aI,aA,mX]
 have h8:=hf.classes
 have hok:okL m.1=true:=by unfold okL;simp;omega
 by_cases hs:eG m.1 c<c
 ·have hns:¬eG m.1 c≥c:=by omega
  simp only[hs,hns,aM,bJ,aB,eD]
  cases hg:eY m (bN m c).2.1
  ·rfl
  ·obtain⟨fl,hfl,hfn⟩:=aFY hi h1
   rw[hfl]
   simp only[aY,aB,aJ,eD,hfn]
   by_cases h8:iM m c≤8
   ·have h8':¬(iM m c:Int)>8:=by omega
    simp only[h8,h8',aM,bJ,aB,eD]
    have hup:(bif decide (eG m.1 c≥0) then bif decide (0≤eG m.1 c)&&decide (eG m.1 c<(m.1.length:Int)) then (some (.inl ((m.1.getD (eG m.1 c).toNat zCl).2.2.1,())):Option ((List Int×Unit)⊕(Bool×Unit))) else none else some (.inl (([]:List Int),())))=some (.inl (eQ m c,())):=by
     unfold eQ
     by_cases hk:0≤eG m.1 c
     ·have a:eG m.1 c≥0:=hk
      have b:eG m.1 c<(m.1.length:Int):=by omega
      simp only[a,b,aM,aI,aA]
      rfl
     ·have a:¬eG m.1 c≥0:=hk
      simp only[a,bJ,aB]
    rw[hup]
    simp only[aJ]
    by_cases hu:(eQ m c).length≤(bN m c).2.2.1.length
    ·have hu':¬((bN m c).2.2.1.length:Int)<((eQ m c).length:Int):=by omega
     simp only[hu,hu',aM,bJ,aB,eD]
     have key:aE (aAE m c (eQ m c,())) 100 ((0:Int),())=bif jE (oA m c) 0 (bN m c).2.2.1 then some (true,()) else some (false,()):=by
      refine aDc (st:=fun k=>((k:Int),())) (p:=oA m c) (fun k f rec hk hlt=>?_) (fun rec=>?_) _ (by omega)
      ·rw[aAE]
       obtain⟨f0,f11⟩:=aLy hf h0 h1 hk
       simp only[hd,dlt hlt,dge,aI,aA,aR,getD_some hk,bH hlt (show (bN m c).2.2.1.length≤lenMax by simp only[lenMax];omega)]
       unfold oA sin
       by_cases hfl:f<(m.2.2.2.1.length:Int)
       ·have hfl':¬f≥(m.2.2.2.1.length:Int):=by omega
        have e1:m.2.2.2.1.getD f.toNat zMt=aD m f:=rfl
        simp only[f0,hfl,hfl',aM,bJ,aA,aB,aI,eD,e1]
        unfold vU
        by_cases hpl:0<(aD m f).1.length
        ·have p1:((aD m f).1.length:Int)≠0:=by omega
         have p2:(((aD m f).1.length:Int)==0)=false:=by simpa using p1
         have p3:(0:Int)<((aD m f).1.length:Int):=by omega
         have hrs:lO m.1 ((3:Int),c,()) ((aD m f).1.getD 0 zTp)=some (cH m.1 ((3:Int),c,()) ((aD m f).1.getD 0 zTp),()):=by
          unfold lO;rw[hok,aFe];rfl
         simp only[p2,p3,hpl,aM,aA,aB,eD,hrs,aJ]
         cases hks:cH m.1 ((3:Int),c,()) ((aD m f).1.getD 0 zTp)
         ·rfl
         ·simp only[aY,aB,eD]
          by_cases hku:k<(eQ m c).length
          ·obtain⟨⟨u1,u2⟩,u3⟩:=aJ6 hh hs hku
           have e2:m.2.2.2.1.getD ((eQ m c).getD k 0).toNat zMt=aD m ((eQ m c).getD k 0):=rfl
           have q1:(1:Int)≤((aD m f).1.length:Int):=by omega
           have q2:(1:Int)≤((aD m ((eQ m c).getD k 0)).1.length:Int):=by omega
           have q3:∀n:Int,decide (n≤n)=true:=fun n=>aG (iQ n)
           simp only[dlt hku,hku,aA,u1,u2,e2,aM,aI,aY,jK,q1,q2,q3,aP8,tS]
           unfold uB qS
           simp only[hpl,u3,aM,eD]
           cases List.drop 1 (aD m f).1==List.drop 1 (aD m ((eQ m c).getD k 0)).1 <;> cases (aD m f).2.2.1==(aD m ((eQ m c).getD k 0)).2.2.1 <;> rfl
          ·have:¬(k:Int)<((eQ m c).length:Int):=by omega
           simp[this,hku]
        ·have p1:(aD m f).1.length=0:=by omega
         simp[p1]
       ·have hfl':f≥(m.2.2.2.1.length:Int):=by omega
        simp[hfl,hfl']
      ·rw[aAE]
       simp only[hd,bT,aB]
     rw[key]
     cases jE (oA m c) 0 (bN m c).2.2.1 <;> rfl
    ·have hu':((bN m c).2.2.1.length:Int)<((eQ m c).length:Int):=by omega
     simp[hu,hu']
   ·have h8':(iM m c:Int)>8:=by omega
    simp[h8,h8']
 ·have hns:eG m.1 c≥c:=by omega
  simp[hs,hns]
theorem aMN (m:Im) (x:Mt) (i:Ins) (r) (h:uL m x i=some r):aFS m x i=some r:=by
 unfold uL at h
 cases hp:pV m x&&eX i <;> simp only[hp,aA,aB] at h
 ·cases h
 injection h with h
 subst h
 simp only[aC,pV] at hp
 obtain⟨⟨hi,ha,hx⟩,hg⟩:=hp
 obtain⟨⟨x1,_⟩,⟨x2,_⟩,_,⟨x4,_⟩,_⟩:=kO hx
 obtain⟨_,⟨a0,_⟩,⟨b0,_⟩,_,_⟩:=aDz hg
 unfold aFS cB
 have hw:IntKind.i64.wrap ((x.1.length:Int)+(x.2.1.length:Int))=((x.1.length+x.2.1.length:Nat):Int):=by
  rw[cO (by omega) (by omega)];omega
 rw[hw]
 have sa:∀n:Int,sin i.2.1 n=decide (i.2.1<n):=fun n=>by unfold sin;rw[aG a0];rfl
 have sb:∀n:Int,sin i.2.2.1 n=decide (i.2.2.1<n):=fun n=>by unfold sin;rw[aG b0];rfl
 simp only[sa,sb]
 have h27:(bif decide (i.2.1<(m.1.length:Int)) then (iI m i.2.1).bind fun r9=>(some (decide (i.2.2.1<(r9.1.length:Int)),()):Option (Bool×Unit)) else some (false,()))=
   some (decide (i.2.1<(m.1.length:Int))&&decide (i.2.2.1<(iM m i.2.1:Int)),()):=by
  by_cases h1:i.2.1<(m.1.length:Int)
  ·obtain⟨fl,hfl,hfn⟩:=aFY hi h1
   simp[h1,hfl,hfn]
  ·simp[h1]
 have h32:(bif decide (i.2.1<(m.1.length:Int)) then (bif decide (0≤i.2.1)&&decide (i.2.1<m.1.length) then (some (decide (i.2.2.1<((m.1.getD i.2.1.toNat zCl).2.2.1.length:Int)),()):Option (Bool×Unit)) else none) else some (false,()))=
   some (decide (i.2.1<(m.1.length:Int))&&decide (i.2.2.1<((bN m i.2.1).2.2.1.length:Int)),()):=by
  by_cases h1:i.2.1<(m.1.length:Int)
  ·simp only[h1,a0,aM,aI,aA,eD]
   rfl
  ·simp[h1]
 simp only[h27,h32]
 cases i.1==1 <;> cases i.1==3 <;> cases i.1==4 <;> cases i.1==18 <;> cases i.1==19 <;> try rfl
 all_goals (cases i.1==22 <;> cases i.1==34 <;> cases i.1==27 <;> cases i.1==28 <;> cases i.1==29 <;> cases i.1==30 <;> cases i.1==31 <;> cases i.1==32 <;> rfl)
theorem aMP (m:Im) (x:Mt) (r) (h:uM m x=some r):∃k,aFT k m x=some r:=by
 unfold uM at h
 cases hp:pV m x <;> simp only[hp,aA,aB] at h
 ·cases h
 injection h with h
 subst h
 have hp':=hp
 simp only[aC,pV] at hp
 obtain⟨hi,ha,hx⟩:=hp
 obtain⟨⟨x1,_⟩,⟨x2,_⟩,_,⟨x4,x5⟩,_⟩:=kO hx
 refine⟨100,?_⟩
 have key:aE (aAw m x) 100 ((0:Int),())=bif x.2.2.2.1.all (cB m x) then some (true,()) else some (false,()):=by
  refine lX (st:=fun k=>((k:Int),())) (p:=cB m x) (fun k i rec hk hlt=>?_) (fun rec=>?_) _ (by omega)
  ·rw[aAw]
   have hsi:uL m x i=some (cB m x i,()):=by unfold uL;rw[hp',x5 i (jF hk)];rfl
   simp only[dlt hlt,dge,aI,aA,aR,getD_some hk,bH hlt (show x.2.2.2.1.length≤lenMax by simp only[lenMax];omega),hsi,aJ]
   cases cB m x i <;> rfl
  ·rw[aAw]
   simp only[bT,aB]
 unfold aFT eR
 rw[key,cO (by omega) (by omega),aHp]
 have hret:((x.2.2.1.1==5)&&((x.2.2.1.2.1==0)&&true))=(x.2.2.1==(5,0,())):=tS x.2.2.1 (5,0,())
 rw[hret]
 have hz:((x.2.2.2.1.length:Int)==0)=decide (x.2.2.2.1.length=0):=by
  by_cases hz:x.2.2.2.1.length=0
  ·simp[hz]
  ·have:¬((x.2.2.2.1.length:Int)=0):=by omega
   simp[hz]
 have h8:decide ((x.1.length:Int)+(x.2.1.length:Int)>8)= !decide (x.1.length+x.2.1.length≤8):=by
  by_cases h8:x.1.length+x.2.1.length≤8
  ·have:¬((x.1.length:Int)+(x.2.1.length:Int)>8):=by omega
   simp[h8,this]
  ·have:((x.1.length:Int)+(x.2.1.length:Int)>8):=by omega
   simp[h8,this]
 have hne:decide (x.2.2.2.1.length≠0)= !decide (x.2.2.2.1.length=0):=by by_cases h:x.2.2.2.1.length=0 <;> simp[h]
 rw[hz,h8,hne]
 unfold mX rR
 cases eY m x.1 <;> cases eY m x.2.1 <;> cases x.2.2.1==(5,0,()) <;> cases fO x.2.2.1 (m.1.length:Int) <;> cases decide (x.2.2.2.1.length=0) <;> try rfl
 all_goals (cases decide (x.2.2.2.2.2.2.1.length=x.2.2.2.1.length) <;> cases decide (x.1.length+x.2.1.length≤8) <;> cases x.2.2.2.1.all (cB m x) <;> rfl)
theorem aAr {α:Type} (p:α→Bool) (d:α):∀l:List α,(List.range l.length).all (fun k=>p (l.getD k d))=l.all p
 | []=>rfl
 | x::l=>by
  have ih:=aAr p d l
  rw[aF,List.range_succ_eq_map]
  simp only[eJ,List.all_map,List.getD_cons_zero]
  rw[←ih]
  rfl
theorem aML (m:Im) (_:aMM m):∃k,aFR k m=some (rT m,()):=by
 refine⟨100,?_⟩
 unfold aFR rT xK rU
 cases hi:cC m
 ·rfl
 have hf:=dA hi
 simp only[aY,aB,aA,mX]
 have h8:=hf.classes
 have h12:=hf.methods
 have hent:=hf.entries
 simp only[jB,fF,aC,aO,bG] at hent
 have k1:aE (uK m) 100 (eY m m.2.1,((0:Int),()))=some (.inl (eY m m.2.1&&kB m,())):=by
  have h:=aA5 (L:=uK m) (N:=m.1.length) (q:=fun k=>iA m (k:Int)) (fin:=fun b=>some (.inl (b,()))) (fun k rec hlt hh=> .inl ?_) (fun k rec _=>?_) (fun rec=>?_) 100 (eY m m.2.1) (by omega)
  ·exact h
  ·rw[uK]
   have hpc:rY m (k:Int)=true:=by
    simp only[rY,aC,aO]
    exact⟨hi,by omega,by omega,xR.2 fun j hj=>hh j (by omega)⟩
   have hsc:uN m (k:Int)=some (iA m (k:Int),()):=by unfold uN;rw[hpc];rfl
   simp only[dlt hlt,aA,hsc,aJ,bH hlt (show m.1.length≤lenMax by simp only[lenMax];omega)]
  ·rw[uK]
   cases decide ((k:Int)<(m.1.length:Int)) <;> rfl
  ·rw[uK]
   simp only[bT,aB]
 rw[k1]
 simp only[aJ]
 have k2:aE (rS m) 100 (eY m m.2.1&&kB m,((0:Int),()))=some (.inl (eY m m.2.1&&kB m&&m.2.2.2.1.all (eR m),())):=by
  cases hac:kB m with
  | false=>
   simp only[zW,kD]
   rw[show (100:Nat)=99+1 from rfl,aX,rS]
   cases decide ((0:Int)<(m.2.2.2.1.length:Int)) <;> rfl
  | true=>
   rw[←aAr (eR m) zMt]
   have h:=aA5 (L:=rS m) (N:=m.2.2.2.1.length) (q:=fun k=>eR m (m.2.2.2.1.getD k zMt)) (fin:=fun b=>some (.inl (b,()))) (fun k rec hlt hh=> .inl ?_) (fun k rec _=>?_) (fun rec=>?_) 100 (eY m m.2.1&&true) (by omega)
   ·exact h
   ·rw[rS]
    have hg:=aU hlt
    have hpm:pV m m.2.2.2.1[k]=true:=by
     simp only[pV,aC]
     exact⟨hi,hac,hf.mts _ (eC hlt)⟩
    have hsm:uM m m.2.2.2.1[k]=some (eR m m.2.2.2.1[k],()):=by unfold uM;rw[hpm];rfl
    simp only[dlt hlt,dge,aI,aA,aR,getD_some hg,hsm,aJ,bH hlt (show m.2.2.2.1.length≤lenMax by simp only[lenMax];omega)]
   ·rw[rS]
    cases decide ((k:Int)<(m.2.2.2.1.length:Int)) <;> rfl
   ·rw[rS]
    simp only[bT,aB]
 rw[k2]
 simp only[aJ]
 have hsB:jP m=(eY m m.2.1&&kB m&&m.2.2.2.1.all (eR m)&&m.2.2.2.2.1.all (qH m)):=by
  unfold jP
  rw[Bool.and_assoc,Bool.and_assoc]
 rw[hsB]
 cases hb:eY m m.2.1&&kB m&&m.2.2.2.1.all (eR m) with
 | false=>
  rw[show (100:Nat)=99+1 from rfl,aX,uJ]
  cases decide ((0:Int)<(m.2.2.2.2.1.length:Int)) <;> rfl
 | true=>
  rw[eD,←aAr (qH m) 0]
  have hmB:∀x∈m.2.2.2.1,eR m x=true:=by
   simp only[aC,bG] at hb
   exact hb.2
  have k4:=aA5 (L:=uJ m 100) (N:=m.2.2.2.2.1.length) (q:=fun k=>qH m (m.2.2.2.2.1.getD k 0)) (fin:=fun b=>bif b then some ((0:Int),()) else some ((3:Int),())) (fun k rec hlt hh=>?_) (fun k rec _=>?_) (fun rec=>?_) 100 true (by omega)
  ·refine Eq.trans k4 ?_
   cases (List.range m.2.2.2.2.1.length).all fun k=>qH m (m.2.2.2.2.1.getD k 0) <;> rfl
  ·have hg:=aU hlt
   obtain⟨f0,f11⟩:=hent.2 _ (eC hlt)
   rw[uJ]
   simp only[dlt hlt,dge,aI,aA,aR,getD_some hg]
   by_cases hfl:m.2.2.2.2.1[k]<(m.2.2.2.1.length:Int)
   ·refine .inl ?_
    have hfl':¬m.2.2.2.2.1[k]≥(m.2.2.2.1.length:Int):=by omega
    have e1:m.2.2.2.1.getD (m.2.2.2.2.1[k]).toNat zMt=aD m m.2.2.2.2.1[k]:=rfl
    simp only[f0,hfl,hfl',aM,bJ,aA,aB,aI,e1]
    have hmm:=oL f0 hfl
    have hmb:=hmB _ hmm
    have hm4:=(kO (hf.mts _ hmm)).1.1
    simp only[eR,aC] at hmb
    obtain⟨hgp,_,hgr,_⟩:=hmb
    have hkg:∀t:Tp,fO t (m.1.length:Int)=true→pR t=(t.1==1):=fun t ht=>by
     unfold pR
     cases h1:t.1==1
     ·rfl
     ·unfold fO at ht
      rw[h1] at ht
      simpa using ht
    have hre:(pR (aD m m.2.2.2.2.1[k]).2.2.1 || (aD m m.2.2.2.2.1[k]).2.2.1.1==5)=((aD m m.2.2.2.2.1[k]).2.2.1.1==1 || (aD m m.2.2.2.2.1[k]).2.2.1.1==5):=by
     cases h5:(aD m m.2.2.2.2.1[k]).2.2.1.1==5
     ·have:fO (aD m m.2.2.2.2.1[k]).2.2.1 (m.1.length:Int)=true:=by
       rcases fX _ _ ▸ hgr with h | h
       ·have:(aD m m.2.2.2.2.1[k]).2.2.1=(5,0,()):=by simpa using h
        rw[this] at h5;simp at h5
       ·exact h
      rw[hkg _ this]
     ·simp
    have hall:(aD m m.2.2.2.2.1[k]).1.all pR=(aD m m.2.2.2.2.1[k]).1.all fun t=>t.1==1:=by
     have hgp':∀t∈(aD m m.2.2.2.2.1[k]).1,fO t (m.1.length:Int)=true:=by simpa[eY] using hgp
     have key:∀l:List Tp,(∀t∈l,fO t (m.1.length:Int)=true)→l.all pR=l.all fun t=>t.1==1:=by
      intro l
      induction l with
      | nil=>intro _;rfl
      | cons t l ih=>
       intro hl
       rw[eJ,eJ,hkg t (hl t (by simp)),ih fun t' h=>hl t' (by simp[h])]
     exact key _ hgp'
    have hbool:(bif (aD m m.2.2.2.2.1[k]).2.2.1.1==1 then (some (.inl (true,())):Option ((Bool×Unit)⊕(Int×Unit))) else some (.inl ((aD m m.2.2.2.2.1[k]).2.2.1.1==5,())))=some (.inl ((aD m m.2.2.2.2.1[k]).2.2.1.1==1 || (aD m m.2.2.2.2.1[k]).2.2.1.1==5,())):=by
     cases (aD m m.2.2.2.2.1[k]).2.2.1.1==1 <;> rfl
    rw[hbool,←hre]
    simp only[aJ]
    have hin:=aA5 (L:=xY m (true,(k:Int),()) rec) (N:=(aD m m.2.2.2.2.1[k]).1.length) (q:=fun j=>((aD m m.2.2.2.2.1[k]).1.getD j zTp).1==1) (fin:=fun b=>rec (b,((k+1:Nat):Int),())) (fun j rec2 hj hh=> .inl ?_) (fun j rec2 _=>?_) (fun rec2=>?_) 100 (pR (aD m m.2.2.2.2.1[k]).2.2.1 || (aD m m.2.2.2.2.1[k]).2.2.1.1==5) (by omega)
    ·refine Eq.trans hin ?_
     have hr:=aAr (fun t:Tp=>t.1==1) zTp (aD m m.2.2.2.2.1[k]).1
     have:(List.range (aD m m.2.2.2.2.1[k]).1.length).all (fun j=>((aD m m.2.2.2.2.1[k]).1.getD j zTp).1==1)=(aD m m.2.2.2.2.1[k]).1.all fun t=>t.1==1:=hr
     rw[this,←hall]
     unfold qH sin
     simp only[f0,hfl,aM,eD]
    ·rw[xY]
     simp only[aR,getD_some hg,f0,hfl,aM,aI,aA,e1,dlt hj,dge,bH hj (show (aD m m.2.2.2.2.1[k]).1.length≤lenMax by simp only[lenMax];omega)]
    ·rw[xY]
     simp only[aR,getD_some hg,f0,hfl,aM,aI,aA,aB,e1,bH hlt (show m.2.2.2.2.1.length≤lenMax by simp only[lenMax];omega)]
     cases decide ((j:Int)<((aD m m.2.2.2.2.1[k]).1.length:Int)) <;> rfl
    ·rw[xY]
     simp only[aR,getD_some hg,f0,hfl,aM,aI,aA,aB,e1,bT,bH hlt (show m.2.2.2.2.1.length≤lenMax by simp only[lenMax];omega)]
   ·refine .inr ⟨?_,?_⟩
    ·unfold qH sin
     simp[hfl]
    ·have hfl':m.2.2.2.2.1[k]≥(m.2.2.2.1.length:Int):=by omega
     simp only[hfl',aM,aA,aB]
  ·rw[uJ]
   cases decide ((k:Int)<(m.2.2.2.2.1.length:Int)) <;> rfl
  ·rw[uJ]
   simp only[bT,aB,aY,aA]
end Go.Pli

namespace Go.Pli
open Go Go.PM
theorem aBM {α:Type} {l:List α} (h:l.length<1000000):decide (([]:List α).length+l.length<rowMax)=true:=aG (by simp[rowMax];omega)
theorem aBO {l:List Tp} (h:l.length<1000000):tD l=some (l,()):=by unfold tD aBy;rw[aBM h];rfl
theorem aRF {l:List Int} (h:l.length<1000000):aBP l=some (l,()):=by unfold aBP aBz;rw[aBM h];rfl
theorem aD8 {l:List Int} (h:l.length<1000000):wK l=some (l,()):=by unfold wK aBA;rw[aBM h];rfl
theorem aRC {l:List Ins} (h:l.length<1000000):aBN l=some (l,()):=by unfold aBN aBx;rw[aBM h];rfl
theorem aHc {α β σ R:Type} {L:σ→(σ→Option R)→Option R} {xs:List α} {f:α→β} {st:Nat→List β→σ} {fin:Option R}
  (h1:∀(k:Nat) (x:α) (acc:List β) (rec),xs[k]? =some x→k<xs.length→acc.length=k→L (st k acc) rec=rec (st (k+1) (acc++[f x])))
  (h2:∀rec,L (st xs.length (xs.map f)) rec=fin):∀F:Nat,xs.length<F→aE L F (st 0 [])=fin:=by
 have key:∀(l pre:List α) (F:Nat),xs=pre++l→l.length<F→aE L F (st pre.length (pre.map f))=fin:=by
  intro l
  induction l with
  | nil=>
   intro pre F hx hF
   obtain⟨F,rfl⟩:∃n,F=n+1:=⟨F - 1,by simp at hF;omega⟩
   rw[bY] at hx
   subst hx
   rw[aX,h2]
  | cons x l ih=>
   intro pre F hx hF
   obtain⟨F,rfl⟩:∃n,F=n+1:=⟨F - 1,by simp at hF;omega⟩
   have hk:xs[pre.length]? =some x:=by rw[hx];simp
   have hl:pre.length<xs.length:=by rw[hx];simp
   rw[aX,h1 pre.length x _ _ hk hl (by simp)]
   have:=ih (pre++[x]) F (by rw[hx];simp) (by simp only[aF] at hF;omega)
   simpa using this
 intro F hF
 exact key xs [] F rfl hF
end Go.Pli

namespace Go.Pli
open Go Go.PM
end Go.Pli

namespace Go.Pli
open Go Go.PM
end Go.Pli

