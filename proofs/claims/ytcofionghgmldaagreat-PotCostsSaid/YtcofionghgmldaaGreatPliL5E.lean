/- Sane, by the reference: what the functions come to. -/
import Derived.Test.YtcofionghgmldaaGreatPliL5A
namespace Go.Pli
open Go Go.PM
theorem oP {l:List Cl} {x:Int}:∀(n:Nat) (c:Int),c.toNat<n→x∈bS l c→0≤x∧x≤c
 | 0,_,h,_=>by omega
 | n+1,c,h,hx=>by
  by_cases hc:c<0
  ·rw[eU hc] at hx;simp at hx
  ·rw[gI (by omega)] at hx
   have hlt:=kJ (l:=l) (c:=c) (by omega)
   rcases bV.1 hx with rfl | hx
   ·omega
   ·by_cases hk:kup l c<0
    ·rw[eU hk] at hx;simp at hx
    ·have:=oP n (kup l c) (by omega) hx
     omega
theorem aE0 (l:List Cl) (c:Int) (b:Tp):tK l (3,c,()) b=cF l (3,c,()) b:=by
 unfold tK cF
 have h4:((3:Int)==4)=false:=rfl
 have h3:((3:Int)==3)=true:=rfl
 simp only[h4,h3,aA,aB,eC]
 cases hb:b.1==3
 ·have hne:((((3:Int),c,()):Tp)==b)=false:=by
   rw[←tB]
   have:((3:Int)==b.1)=false:=by
    simp only[qG,ne_eq] at hb⊢
    exact fun h=>hb h.symm
   simp[this]
  simp[hne]
 ·simp only[aA,eC]
  unfold cE dA
  by_cases hc:c<(l.length:Int)
  ·simp only[hc,aM,aA,eC]
   cases hm:(bS l c).contains b.2.1
   ·simp
   ·have hm':b.2.1∈bS l c:=by simpa using hm
    have:=oP (c.toNat+1) c (by omega) hm'
    have a1:0≤b.2.1:=this.1
    have a2:b.2.1<(l.length:Int):=by omega
    simp[a1,a2]
  ·simp[hc]
theorem aL3 {l:List Cl} {c x:Int} (h:x∈cE l c):0≤x∧x<(l.length:Int):=by
 unfold cE at h
 by_cases hc:c<(l.length:Int)
 ·simp only[hc,aM,aA] at h
  have:=oP (c.toNat+1) c (by omega) h
  omega
 ·simp[hc] at h
theorem aFs {l:List Cl} {c:Int}:(cE l c).length≤l.length+1:=by
 unfold cE
 by_cases hc:c<(l.length:Int)
 ·simp only[hc,aM,aA]
  have:=sN l (c.toNat+1) c (by omega)
  omega
 ·simp[hc]
theorem aH1 (m:Im) (hf:Fit m) (rs:List Int) (hr:∀x∈rs,0≤x∧x<(m.1.length:Int)):∀(k F:Nat) (out:List Tp),k≤rs.length→k<100→k<F→out.length+8*k<10000→
  aE (aAn m (rs,())) F (out,(k:Int) - 1,())=some (out++(((rs.take k).reverse).map fun s=>(bP m s).2.1).flatten,())
 | 0,F,out,_,_,hF,_=>by
  obtain⟨F,rfl⟩:∃n,F=n+1:=⟨F - 1,by omega⟩
  rw[aX,aAn]
  simp
 | k+1,F,out,hk,hk100,hF,ho=>by
  obtain⟨F,rfl⟩:∃n,F=n+1:=⟨F - 1,by omega⟩
  have hlt:k<rs.length:=by omega
  have hg:=aV hlt
  have hmem:rs[k]∈rs:=eH hlt
  obtain⟨x0,x1⟩:=hr _ hmem
  have hcls:=(aBh (hf.cls _ (aDJ x0 x1))).2.1.1
  have hd:m.1.getD (rs[k]).toNat zCl=bP m rs[k]:=rfl
  have e:(((k+1:Nat):Int) - 1)=(k:Int):=by omega
  rw[aX,aAn,e]
  have hroom:out.length+(bP m rs[k]).2.1.length<rowMax:=by simp only[rowMax];omega
  have hge:decide ((k:Int)≥0)=true:=aPF k
  simp only[hge,dlt hlt,aH,aA,aU,getD_some hg,x0,x1,hd,hroom,aM]
  rw[cS (by omega) (by omega),aH1 m hf rs hr k F _ (by omega) (by omega) (by omega) (by simp only[aW];omega)]
  rw[List.take_succ_eq_append_getElem hlt]
  simp only[List.reverse_append,List.reverse_cons,List.reverse_nil,oX,qN,dK,gK,cA]
theorem aH3 (m:Im):∀l:List Int,(((l.reverse).map fun s=>(bP m s).2.1).flatten).length=aZ (l.map fun s=>(bP m s).2.1.length)
 | []=>rfl
 | x::l=>by
  have ih:=aH3 m l
  simp only[List.reverse_cons,jD,dK,List.map_nil,kY,gK,jE,bU,aW,aZ]
  omega
theorem aMB (m:Im) (c:Int) (r) (h:iE m c=some r):∃k,aFK k m c=some r:=by
 unfold iE at h
 cases hi:bX m <;> simp only[hi,aA,aB] at h
 ·cases h
 injection h with h
 subst h
 have hf:=dG hi
 have h8:=hf.classes
 have hok:okL m.1=true:=by unfold okL;simp;omega
 have hlen:=aFs (l:=m.1) (c:=c)
 refine⟨100,?_⟩
 unfold aFK iQ
 rw[hok]
 simp only[aA,aJ]
 rw[cS (by omega) (by omega),aH1 m hf _ (fun x hx=>aL3 hx) (cE m.1 c).length 100 [] (by omega) (by omega) (by omega) (by simp;omega),iA]
 simp
theorem aFJ {m:Im} {c:Int} (hi:bX m=true) (h1:c<(m.1.length:Int)):∃l:List Tp,iE m c=some (l,())∧l.length=iI m c:=by
 unfold iE
 rw[hi]
 refine⟨_,rfl,?_⟩
 rw[aH3]
 unfold iI cE
 simp[h1]
theorem aMC (m:Im) (c:Int) (r) (h:tY m c=some r):∃k,aFL k m c=some r:=by
 unfold tY at h
 cases hp:rL m c <;> simp only[hp,aA,aB] at h
 ·cases h
 injection h with h
 subst h
 obtain⟨hf,h0,h1,hh⟩:=aMN hp
 have hi:bX m=true:=by simp only[rL,aC] at hp;exact hp.1
 refine⟨100,?_⟩
 obtain⟨⟨c1,c2⟩,⟨c3,c4⟩,⟨c5,c6⟩⟩:=aBh (hf.cls _ (aDJ h0 h1))
 unfold aFL hU
 have hd:m.1.getD c.toNat zCl=bP m c:=rfl
 have hd2:(bP m c).1=eA m.1 c:=rfl
 rw[hd,hd2]
 simp only[h0,h1,aM,aH,aA,mM]
 have h8:=hf.classes
 have hok:okL m.1=true:=by unfold okL;simp;omega
 by_cases hs:eA m.1 c<c
 ·have hns:¬eA m.1 c≥c:=by omega
  simp only[hs,hns,aM,bG,aB,eC]
  cases hg:eS m (bP m c).2.1
  ·rfl
  ·obtain⟨fl,hfl,hfn⟩:=aFJ hi h1
   rw[hfl]
   simp only[bA,aB,aJ,eC,hfn]
   by_cases h8:iI m c≤8
   ·have h8':¬(iI m c:Int)>8:=by omega
    simp only[h8,h8',aM,bG,aB,eC]
    have hup:(bif decide (eA m.1 c≥0) then bif decide (0≤eA m.1 c)&&decide (eA m.1 c<(m.1.length:Int)) then (some (.inl ((m.1.getD (eA m.1 c).toNat zCl).2.2.1,())):Option ((List Int×Unit)⊕(Bool×Unit))) else none else some (.inl (([]:List Int),())))=some (.inl (eL m c,())):=by
     unfold eL
     by_cases hk:0≤eA m.1 c
     ·have a:eA m.1 c≥0:=hk
      have b:eA m.1 c<(m.1.length:Int):=by omega
      simp only[a,b,aM,aH,aA]
      rfl
     ·have a:¬eA m.1 c≥0:=hk
      simp only[a,bG,aB]
    rw[hup]
    simp only[aJ]
    by_cases hu:(eL m c).length≤(bP m c).2.2.1.length
    ·have hu':¬((bP m c).2.2.1.length:Int)<((eL m c).length:Int):=by omega
     simp only[hu,hu',aM,bG,aB,eC]
     have key:aE (aAo m c (eL m c,())) 100 ((0:Int),())=bif jC (nR m c) 0 (bP m c).2.2.1 then some (true,()) else some (false,()):=by
      refine aCX (st:=fun k=>((k:Int),())) (p:=nR m c) (fun k f rec hk hlt=>?_) (fun rec=>?_) _ (by omega)
      ·rw[aAo]
       obtain⟨f0,f11⟩:=aK8 hf h0 h1 hk
       simp only[hd,dlt hlt,dge,aH,aA,aU,getD_some hk,bJ hlt (show (bP m c).2.2.1.length≤lenMax by simp only[lenMax];omega)]
       unfold nR sin
       by_cases hfl:f<(m.2.2.2.1.length:Int)
       ·have hfl':¬f≥(m.2.2.2.1.length:Int):=by omega
        have e1:m.2.2.2.1.getD f.toNat zMt=aD m f:=rfl
        simp only[f0,hfl,hfl',aM,bG,aA,aB,aH,eC,e1]
        unfold vG
        by_cases hpl:0<(aD m f).1.length
        ·have p1:((aD m f).1.length:Int)≠0:=by omega
         have p2:(((aD m f).1.length:Int)==0)=false:=by simpa using p1
         have p3:(0:Int)<((aD m f).1.length:Int):=by omega
         have hrs:lF m.1 ((3:Int),c,()) ((aD m f).1.getD 0 zTp)=some (cF m.1 ((3:Int),c,()) ((aD m f).1.getD 0 zTp),()):=by
          unfold lF;rw[hok,aE0];rfl
         simp only[p2,p3,hpl,aM,aA,aB,eC,hrs,aJ]
         cases hks:cF m.1 ((3:Int),c,()) ((aD m f).1.getD 0 zTp)
         ·rfl
         ·simp only[bA,aB,eC]
          by_cases hku:k<(eL m c).length
          ·obtain⟨⟨u1,u2⟩,u3⟩:=aJH hh hs hku
           have e2:m.2.2.2.1.getD ((eL m c).getD k 0).toNat zMt=aD m ((eL m c).getD k 0):=rfl
           have q1:(1:Int)≤((aD m f).1.length:Int):=by omega
           have q2:(1:Int)≤((aD m ((eL m c).getD k 0)).1.length:Int):=by omega
           have q3:∀n:Int,decide (n≤n)=true:=fun n=>aI (jH n)
           simp only[dlt hku,hku,aA,u1,u2,e2,aM,aH,bA,kZ,q1,q2,q3,aPC,tB]
           unfold tJ qH
           simp only[hpl,u3,aM,eC]
           cases List.drop 1 (aD m f).1==List.drop 1 (aD m ((eL m c).getD k 0)).1 <;> cases (aD m f).2.2.1==(aD m ((eL m c).getD k 0)).2.2.1 <;> rfl
          ·have:¬(k:Int)<((eL m c).length:Int):=by omega
           simp[this,hku]
        ·have p1:(aD m f).1.length=0:=by omega
         simp[p1]
       ·have hfl':f≥(m.2.2.2.1.length:Int):=by omega
        simp[hfl,hfl']
      ·rw[aAo]
       simp only[hd,bQ,aB]
     rw[key]
     cases jC (nR m c) 0 (bP m c).2.2.1 <;> rfl
    ·have hu':((bP m c).2.2.1.length:Int)<((eL m c).length:Int):=by omega
     simp[hu,hu']
   ·have h8':(iI m c:Int)>8:=by omega
    simp[h8,h8']
 ·have hns:eA m.1 c≥c:=by omega
  simp[hs,hns]
theorem aMm (m:Im) (x:Mt) (i:Ins) (r) (h:tW m x i=some r):aFD m x i=some r:=by
 unfold tW at h
 cases hp:pK m x&&fB i <;> simp only[hp,aA,aB] at h
 ·cases h
 injection h with h
 subst h
 simp only[aC,pK] at hp
 obtain⟨⟨hi,ha,hx⟩,hg⟩:=hp
 obtain⟨⟨x1,_⟩,⟨x2,_⟩,_,⟨x4,_⟩,_⟩:=mP hx
 obtain⟨_,⟨a0,_⟩,⟨b0,_⟩,_,_⟩:=aDk hg
 unfold aFD bW
 have hw:IntKind.i64.wrap ((x.1.length:Int)+(x.2.1.length:Int))=((x.1.length+x.2.1.length:Nat):Int):=by
  rw[cS (by omega) (by omega)];omega
 rw[hw]
 have sa:∀n:Int,sin i.2.1 n=decide (i.2.1<n):=fun n=>by unfold sin;rw[aI a0];rfl
 have sb:∀n:Int,sin i.2.2.1 n=decide (i.2.2.1<n):=fun n=>by unfold sin;rw[aI b0];rfl
 simp only[sa,sb]
 have h27:(bif decide (i.2.1<(m.1.length:Int)) then (iE m i.2.1).bind fun r9=>(some (decide (i.2.2.1<(r9.1.length:Int)),()):Option (Bool×Unit)) else some (false,()))=
   some (decide (i.2.1<(m.1.length:Int))&&decide (i.2.2.1<(iI m i.2.1:Int)),()):=by
  by_cases h1:i.2.1<(m.1.length:Int)
  ·obtain⟨fl,hfl,hfn⟩:=aFJ hi h1
   simp[h1,hfl,hfn]
  ·simp[h1]
 have h32:(bif decide (i.2.1<(m.1.length:Int)) then (bif decide (0≤i.2.1)&&decide (i.2.1<m.1.length) then (some (decide (i.2.2.1<((m.1.getD i.2.1.toNat zCl).2.2.1.length:Int)),()):Option (Bool×Unit)) else none) else some (false,()))=
   some (decide (i.2.1<(m.1.length:Int))&&decide (i.2.2.1<((bP m i.2.1).2.2.1.length:Int)),()):=by
  by_cases h1:i.2.1<(m.1.length:Int)
  ·simp only[h1,a0,aM,aH,aA,eC]
   rfl
  ·simp[h1]
 simp only[h27,h32]
 cases i.1==1 <;> cases i.1==3 <;> cases i.1==4 <;> cases i.1==18 <;> cases i.1==19 <;> try rfl
 all_goals (cases i.1==22 <;> cases i.1==34 <;> cases i.1==27 <;> cases i.1==28 <;> cases i.1==29 <;> cases i.1==30 <;> cases i.1==31 <;> cases i.1==32 <;> rfl)
theorem aMo (m:Im) (x:Mt) (r) (h:tX m x=some r):∃k,aFE k m x=some r:=by
 unfold tX at h
 cases hp:pK m x <;> simp only[hp,aA,aB] at h
 ·cases h
 injection h with h
 subst h
 have hp':=hp
 simp only[aC,pK] at hp
 obtain⟨hi,ha,hx⟩:=hp
 obtain⟨⟨x1,_⟩,⟨x2,_⟩,_,⟨x4,x5⟩,_⟩:=mP hx
 refine⟨100,?_⟩
 have key:aE (aAg m x) 100 ((0:Int),())=bif x.2.2.2.1.all (bW m x) then some (true,()) else some (false,()):=by
  refine lN (st:=fun k=>((k:Int),())) (p:=bW m x) (fun k i rec hk hlt=>?_) (fun rec=>?_) _ (by omega)
  ·rw[aAg]
   have hsi:tW m x i=some (bW m x i,()):=by unfold tW;rw[hp',x5 i (jY hk)];rfl
   simp only[dlt hlt,dge,aH,aA,aU,getD_some hk,bJ hlt (show x.2.2.2.1.length≤lenMax by simp only[lenMax];omega),hsi,aJ]
   cases bW m x i <;> rfl
  ·rw[aAg]
   simp only[bQ,aB]
 unfold aFE eR
 rw[key,cS (by omega) (by omega),aG6]
 have hret:((x.2.2.1.1==5)&&((x.2.2.1.2.1==0)&&true))=(x.2.2.1==(5,0,())):=tB x.2.2.1 (5,0,())
 rw[hret]
 have hz:((x.2.2.2.1.length:Int)==0)=decide (x.2.2.2.1.length=0):=by
  by_cases hz:x.2.2.2.1.length=0
  ·simp[hz]
  ·have:¬((x.2.2.2.1.length:Int)=0):=by omega
   simp[hz]
 have h8:decide ((x.1.length:Int)+(x.2.1.length:Int)>8)= !decide (x.1.length+x.2.1.length≤8):=by
  by_cases h8:x.1.length+x.2.1.length≤8
  ·have:¬((x.1.length:Int)+(x.2.1.length:Int)>8):=by omega
   simp[h8,this]
  ·have:((x.1.length:Int)+(x.2.1.length:Int)>8):=by omega
   simp[h8,this]
 have hne:decide (x.2.2.2.1.length≠0)= !decide (x.2.2.2.1.length=0):=by by_cases h:x.2.2.2.1.length=0 <;> simp[h]
 rw[hz,h8,hne]
 unfold mM rE
 cases eS m x.1 <;> cases eS m x.2.1 <;> cases x.2.2.1==(5,0,()) <;> cases fM x.2.2.1 (m.1.length:Int) <;> cases decide (x.2.2.2.1.length=0) <;> try rfl
 all_goals (cases decide (x.2.2.2.2.2.2.1.length=x.2.2.2.1.length) <;> cases decide (x.1.length+x.2.1.length≤8) <;> cases x.2.2.2.1.all (bW m x) <;> rfl)
theorem aAb {α:Type} (p:α→Bool) (d:α):∀l:List α,(List.range l.length).all (fun k=>p (l.getD k d))=l.all p
 | []=>rfl
 | x::l=>by
  have ih:=aAb p d l
  rw[aF,List.range_succ_eq_map]
  simp only[eV,List.all_map,List.getD_cons_zero]
  rw[←ih]
  rfl
theorem aMk (m:Im) (_:aMl m):∃k,aFC k m=some (rG m,()):=by
 refine⟨100,?_⟩
 unfold aFC rG wY rH
 cases hi:bX m
 ·rfl
 have hf:=dG hi
 simp only[bA,aB,aA,mM]
 have h8:=hf.classes
 have h12:=hf.methods
 have hent:=hf.entries
 simp only[iZ,fA,aC,aQ,bI] at hent
 have k1:aE (tV m) 100 (eS m m.2.1,((0:Int),()))=some (.inl (eS m m.2.1&&jX m,())):=by
  have h:=aAP (L:=tV m) (N:=m.1.length) (q:=fun k=>hU m (k:Int)) (fin:=fun b=>some (.inl (b,()))) (fun k rec hlt hh=> .inl ?_) (fun k rec _=>?_) (fun rec=>?_) 100 (eS m m.2.1) (by omega)
  ·exact h
  ·rw[tV]
   have hpc:rL m (k:Int)=true:=by
    simp only[rL,aC,aQ]
    exact⟨hi,by omega,by omega,xF.2 fun j hj=>hh j (by omega)⟩
   have hsc:tY m (k:Int)=some (hU m (k:Int),()):=by unfold tY;rw[hpc];rfl
   simp only[dlt hlt,aA,hsc,aJ,bJ hlt (show m.1.length≤lenMax by simp only[lenMax];omega)]
  ·rw[tV]
   cases decide ((k:Int)<(m.1.length:Int)) <;> rfl
  ·rw[tV]
   simp only[bQ,aB]
 rw[k1]
 simp only[aJ]
 have k2:aE (rF m) 100 (eS m m.2.1&&jX m,((0:Int),()))=some (.inl (eS m m.2.1&&jX m&&m.2.2.2.1.all (eR m),())):=by
  cases hac:jX m with
  | false=>
   simp only[zF,lA]
   rw[show (100:Nat)=99+1 from rfl,aX,rF]
   cases decide ((0:Int)<(m.2.2.2.1.length:Int)) <;> rfl
  | true=>
   rw[←aAb (eR m) zMt]
   have h:=aAP (L:=rF m) (N:=m.2.2.2.1.length) (q:=fun k=>eR m (m.2.2.2.1.getD k zMt)) (fin:=fun b=>some (.inl (b,()))) (fun k rec hlt hh=> .inl ?_) (fun k rec _=>?_) (fun rec=>?_) 100 (eS m m.2.1&&true) (by omega)
   ·exact h
   ·rw[rF]
    have hg:=aV hlt
    have hpm:pK m m.2.2.2.1[k]=true:=by
     simp only[pK,aC]
     exact⟨hi,hac,hf.mts _ (eH hlt)⟩
    have hsm:tX m m.2.2.2.1[k]=some (eR m m.2.2.2.1[k],()):=by unfold tX;rw[hpm];rfl
    simp only[dlt hlt,dge,aH,aA,aU,getD_some hg,hsm,aJ,bJ hlt (show m.2.2.2.1.length≤lenMax by simp only[lenMax];omega)]
   ·rw[rF]
    cases decide ((k:Int)<(m.2.2.2.1.length:Int)) <;> rfl
   ·rw[rF]
    simp only[bQ,aB]
 rw[k2]
 simp only[aJ]
 have hsB:jM m=(eS m m.2.1&&jX m&&m.2.2.2.1.all (eR m)&&m.2.2.2.2.1.all (pW m)):=by
  unfold jM
  rw[Bool.and_assoc,Bool.and_assoc]
 rw[hsB]
 cases hb:eS m m.2.1&&jX m&&m.2.2.2.1.all (eR m) with
 | false=>
  rw[show (100:Nat)=99+1 from rfl,aX,tU]
  cases decide ((0:Int)<(m.2.2.2.2.1.length:Int)) <;> rfl
 | true=>
  rw[eC,←aAb (pW m) 0]
  have hmB:∀x∈m.2.2.2.1,eR m x=true:=by
   simp only[aC,bI] at hb
   exact hb.2
  have k4:=aAP (L:=tU m 100) (N:=m.2.2.2.2.1.length) (q:=fun k=>pW m (m.2.2.2.2.1.getD k 0)) (fin:=fun b=>bif b then some ((0:Int),()) else some ((3:Int),())) (fun k rec hlt hh=>?_) (fun k rec _=>?_) (fun rec=>?_) 100 true (by omega)
  ·refine Eq.trans k4 ?_
   cases (List.range m.2.2.2.2.1.length).all fun k=>pW m (m.2.2.2.2.1.getD k 0) <;> rfl
  ·have hg:=aV hlt
   obtain⟨f0,f11⟩:=hent.2 _ (eH hlt)
   rw[tU]
   simp only[dlt hlt,dge,aH,aA,aU,getD_some hg]
   by_cases hfl:m.2.2.2.2.1[k]<(m.2.2.2.1.length:Int)
   ·refine .inl ?_
    have hfl':¬m.2.2.2.2.1[k]≥(m.2.2.2.1.length:Int):=by omega
    have e1:m.2.2.2.1.getD (m.2.2.2.2.1[k]).toNat zMt=aD m m.2.2.2.2.1[k]:=rfl
    simp only[f0,hfl,hfl',aM,bG,aA,aB,aH,e1]
    have hmm:=rT f0 hfl
    have hmb:=hmB _ hmm
    have hm4:=(mP (hf.mts _ hmm)).1.1
    simp only[eR,aC] at hmb
    obtain⟨hgp,_,hgr,_⟩:=hmb
    have hkg:∀t:Tp,fM t (m.1.length:Int)=true→pF t=(t.1==1):=fun t ht=>by
     unfold pF
     cases h1:t.1==1
     ·rfl
     ·unfold fM at ht
      rw[h1] at ht
      simpa using ht
    have hre:(pF (aD m m.2.2.2.2.1[k]).2.2.1 || (aD m m.2.2.2.2.1[k]).2.2.1.1==5)=((aD m m.2.2.2.2.1[k]).2.2.1.1==1 || (aD m m.2.2.2.2.1[k]).2.2.1.1==5):=by
     cases h5:(aD m m.2.2.2.2.1[k]).2.2.1.1==5
     ·have:fM (aD m m.2.2.2.2.1[k]).2.2.1 (m.1.length:Int)=true:=by
       rcases fT _ _ ▸ hgr with h | h
       ·have:(aD m m.2.2.2.2.1[k]).2.2.1=(5,0,()):=by simpa using h
        rw[this] at h5;simp at h5
       ·exact h
      rw[hkg _ this]
     ·simp
    have hall:(aD m m.2.2.2.2.1[k]).1.all pF=(aD m m.2.2.2.2.1[k]).1.all fun t=>t.1==1:=by
     have hgp':∀t∈(aD m m.2.2.2.2.1[k]).1,fM t (m.1.length:Int)=true:=by simpa[eS] using hgp
     have key:∀l:List Tp,(∀t∈l,fM t (m.1.length:Int)=true)→l.all pF=l.all fun t=>t.1==1:=by
      intro l
      induction l with
      | nil=>intro _;rfl
      | cons t l ih=>
       intro hl
       rw[eV,eV,hkg t (hl t (by simp)),ih fun t' h=>hl t' (by simp[h])]
     exact key _ hgp'
    have hbool:(bif (aD m m.2.2.2.2.1[k]).2.2.1.1==1 then (some (.inl (true,())):Option ((Bool×Unit)⊕(Int×Unit))) else some (.inl ((aD m m.2.2.2.2.1[k]).2.2.1.1==5,())))=some (.inl ((aD m m.2.2.2.2.1[k]).2.2.1.1==1 || (aD m m.2.2.2.2.1[k]).2.2.1.1==5,())):=by
     cases (aD m m.2.2.2.2.1[k]).2.2.1.1==1 <;> rfl
    rw[hbool,←hre]
    simp only[aJ]
    have hin:=aAP (L:=xM m (true,(k:Int),()) rec) (N:=(aD m m.2.2.2.2.1[k]).1.length) (q:=fun j=>((aD m m.2.2.2.2.1[k]).1.getD j zTp).1==1) (fin:=fun b=>rec (b,((k+1:Nat):Int),())) (fun j rec2 hj hh=> .inl ?_) (fun j rec2 _=>?_) (fun rec2=>?_) 100 (pF (aD m m.2.2.2.2.1[k]).2.2.1 || (aD m m.2.2.2.2.1[k]).2.2.1.1==5) (by omega)
    ·refine Eq.trans hin ?_
     have hr:=aAb (fun t:Tp=>t.1==1) zTp (aD m m.2.2.2.2.1[k]).1
     have:(List.range (aD m m.2.2.2.2.1[k]).1.length).all (fun j=>((aD m m.2.2.2.2.1[k]).1.getD j zTp).1==1)=(aD m m.2.2.2.2.1[k]).1.all fun t=>t.1==1:=hr
     rw[this,←hall]
     unfold pW sin
     simp only[f0,hfl,aM,eC]
    ·rw[xM]
     simp only[aU,getD_some hg,f0,hfl,aM,aH,aA,e1,dlt hj,dge,bJ hj (show (aD m m.2.2.2.2.1[k]).1.length≤lenMax by simp only[lenMax];omega)]
    ·rw[xM]
     simp only[aU,getD_some hg,f0,hfl,aM,aH,aA,aB,e1,bJ hlt (show m.2.2.2.2.1.length≤lenMax by simp only[lenMax];omega)]
     cases decide ((j:Int)<((aD m m.2.2.2.2.1[k]).1.length:Int)) <;> rfl
    ·rw[xM]
     simp only[aU,getD_some hg,f0,hfl,aM,aH,aA,aB,e1,bQ,bJ hlt (show m.2.2.2.2.1.length≤lenMax by simp only[lenMax];omega)]
   ·refine .inr ⟨?_,?_⟩
    ·unfold pW sin
     simp[hfl]
    ·have hfl':m.2.2.2.2.1[k]≥(m.2.2.2.1.length:Int):=by omega
     simp only[hfl',aM,aA,aB]
  ·rw[tU]
   cases decide ((k:Int)<(m.2.2.2.2.1.length:Int)) <;> rfl
  ·rw[tU]
   simp only[bQ,aB,bA,aA]
end Go.Pli

namespace Go.Pli
open Go Go.PM
theorem aBx {α:Type} {l:List α} (h:l.length<1000000):decide (([]:List α).length+l.length<rowMax)=true:=aI (by simp[rowMax];omega)
theorem aBz {l:List Tp} (h:l.length<1000000):sP l=some (l,()):=by unfold sP aBj;rw[aBx h];rfl
theorem aQ9 {l:List Int} (h:l.length<1000000):aBA l=some (l,()):=by unfold aBA aBk;rw[aBx h];rfl
theorem aDT {l:List Int} (h:l.length<1000000):vW l=some (l,()):=by unfold vW aBl;rw[aBx h];rfl
theorem aQ6 {l:List Ins} (h:l.length<1000000):aBy l=some (l,()):=by unfold aBy aBi;rw[aBx h];rfl
theorem aGT {α β σ R:Type} {L:σ→(σ→Option R)→Option R} {xs:List α} {f:α→β} {st:Nat→List β→σ} {fin:Option R}
  (h1:∀(k:Nat) (x:α) (acc:List β) (rec),xs[k]? =some x→k<xs.length→acc.length=k→L (st k acc) rec=rec (st (k+1) (acc++[f x])))
  (h2:∀rec,L (st xs.length (xs.map f)) rec=fin):∀F:Nat,xs.length<F→aE L F (st 0 [])=fin:=by
 have key:∀(l pre:List α) (F:Nat),xs=pre++l→l.length<F→aE L F (st pre.length (pre.map f))=fin:=by
  intro l
  induction l with
  | nil=>
   intro pre F hx hF
   obtain⟨F,rfl⟩:∃n,F=n+1:=⟨F - 1,by simp at hF;omega⟩
   rw[bU] at hx
   subst hx
   rw[aX,h2]
  | cons x l ih=>
   intro pre F hx hF
   obtain⟨F,rfl⟩:∃n,F=n+1:=⟨F - 1,by simp at hF;omega⟩
   have hk:xs[pre.length]? =some x:=by rw[hx];simp
   have hl:pre.length<xs.length:=by rw[hx];simp
   rw[aX,h1 pre.length x _ _ hk hl (by simp)]
   have:=ih (pre++[x]) F (by rw[hx];simp) (by simp only[aF] at hF;omega)
   simpa using this
 intro F hF
 exact key xs [] F rfl hF
end Go.Pli

namespace Go.Pli
open Go Go.PM
end Go.Pli

namespace Go.Pli
open Go Go.PM
end Go.Pli

