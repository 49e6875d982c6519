/- Sane, by the reference: what the functions come to. -/
import Derived.Test.YtcofionghgmldaaGreatPliL5A
namespace Go.Pli
open Go Go.PM
theorem oU {l:List Cl} {x:Int}:∀(n:Nat) (c:Int),c.toNat<n→x∈bU l c→0≤x∧x≤c
 | 0,_,h,_=>by omega
 | n+1,c,h,hx=>by
  by_cases hc:c<0
  ·rw[eX hc] at hx;simp at hx
  ·rw[gM (by omega)] at hx
   have hlt:=kN (l:=l) (c:=c) (by omega)
   rcases bW.1 hx with rfl | hx
   ·omega
   ·by_cases hk:kup l c<0
    ·rw[eX hk] at hx;simp at hx
    ·have:=oU n (kup l c) (by omega) hx
     omega
theorem aFe (l:List Cl) (c:Int) (b:Tp):tQ l (3,c,()) b=cG l (3,c,()) b:=by
 unfold tQ cG
 have h4:((3:Int)==4)=false:=rfl
 have h3:((3:Int)==3)=true:=rfl
 simp only[h4,h3,aA,aB,eG]
 cases hb:b.1==3
 ·have hne:((((3:Int),c,()):Tp)==b)=false:=by
   rw[←tF]
   have:((3:Int)==b.1)=false:=by
    simp only[oX,ne_eq] at hb⊢
    exact fun h=>hb h.symm
   simp[this]
  simp[hne]
 ·simp only[aA,eG]
  unfold cF dD
  by_cases hc:c<(l.length:Int)
  ·simp only[hc,aK,aA,eG]
   cases hm:(bU l c).contains b.2.1
   ·simp
   ·have hm':b.2.1∈bU l c:=by simpa using hm
    have:=oU (c.toNat+1) c (by omega) hm'
    have a1:0≤b.2.1:=this.1
    have a2:b.2.1<(l.length:Int):=by omega
    simp[a1,a2]
  ·simp[hc]
theorem aMs {l:List Cl} {c x:Int} (h:x∈cF l c):0≤x∧x<(l.length:Int):=by
 unfold cF at h
 by_cases hc:c<(l.length:Int)
 ·simp only[hc,aK,aA] at h
  have:=oU (c.toNat+1) c (by omega) h
  omega
 ·simp[hc] at h
theorem aFG {l:List Cl} {c:Int}:(cF l c).length≤l.length+1:=by
 unfold cF
 by_cases hc:c<(l.length:Int)
 ·simp only[hc,aK,aA]
  have:=sR l (c.toNat+1) c (by omega)
  omega
 ·simp[hc]
theorem aIg (m:Im) (hf:Fit m) (rs:List Int) (hr:∀x∈rs,0≤x∧x<(m.1.length:Int)):∀(k F:Nat) (out:List Tp),k≤rs.length→k<100→k<F→out.length+8*k<10000→
  aE (aAv m (rs,())) F (out,(k:Int) - 1,())=some (out++(((rs.take k).reverse).map fun s=>(bQ m s).2.1).flatten,())
 | 0,F,out,_,_,hF,_=>by
  obtain⟨F,rfl⟩:∃n,F=n+1:=⟨F - 1,by omega⟩
  rw[aY,aAv]
  simp
 | k+1,F,out,hk,hk100,hF,ho=>by
  obtain⟨F,rfl⟩:∃n,F=n+1:=⟨F - 1,by omega⟩
  have hlt:k<rs.length:=by omega
  have hg:=aW hlt
  have hmem:rs[k]∈rs:=eE hlt
  obtain⟨x0,x1⟩:=hr _ hmem
  have hcls:=(aBo (hf.cls _ (aDV x0 x1))).2.1.1
  have hd:m.1.getD (rs[k]).toNat zCl=bQ m rs[k]:=rfl
  have e:(((k+1:Nat):Int) - 1)=(k:Int):=by omega
  rw[aY,aAv,e]
  have hroom:out.length+(bQ m rs[k]).2.1.length<rowMax:=by simp only[rowMax];omega
  have hge:decide ((k:Int)≥0)=true:=aP6 k
  simp only[hge,dlt hlt,aI,aA,aT,getD_some hg,x0,x1,hd,hroom,aK]
  rw[cT (by omega) (by omega),aIg m hf rs hr k F _ (by omega) (by omega) (by omega) (by simp only[aV];omega)]
  rw[List.take_succ_eq_append_getElem hlt]
  simp only[List.reverse_append,List.reverse_cons,List.reverse_nil,nO,qT,dH,fV,bX]
theorem aIi (m:Im):∀l:List Int,(((l.reverse).map fun s=>(bQ m s).2.1).flatten).length=bA (l.map fun s=>(bQ m s).2.1.length)
 | []=>rfl
 | x::l=>by
  have ih:=aIi m l
  simp only[List.reverse_cons,jF,dH,List.map_nil,lB,fV,jG,bS,aV,bA]
  omega
theorem aMZ (m:Im) (c:Int) (r) (h:iH m c=some r):∃k,aFZ k m c=some r:=by
 unfold iH at h
 cases hi:cB m <;> simp only[hi,aA,aB] at h
 ·cases h
 injection h with h
 subst h
 have hf:=dI hi
 have h8:=hf.classes
 have hok:okL m.1=true:=by unfold okL;simp;omega
 have hlen:=aFG (l:=m.1) (c:=c)
 refine⟨100,?_⟩
 unfold aFZ iT
 rw[hok]
 simp only[aA,aJ]
 rw[cT (by omega) (by omega),aIg m hf _ (fun x hx=>aMs hx) (cF m.1 c).length 100 [] (by omega) (by omega) (by omega) (by simp;omega),iD]
 simp
theorem aFY {m:Im} {c:Int} (hi:cB m=true) (h1:c<(m.1.length:Int)):∃l:List Tp,iH m c=some (l,())∧l.length=iL m c:=by
 unfold iH
 rw[hi]
 refine⟨_,rfl,?_⟩
 rw[aIi]
 unfold iL cF
 simp[h1]
theorem aM0 (m:Im) (c:Int) (r) (h:uD m c=some r):∃k,aF0 k m c=some r:=by
 unfold uD at h
 cases hp:rP m c <;> simp only[hp,aA,aB] at h
 ·cases h
 injection h with h
 subst h
 obtain⟨hf,h0,h1,hh⟩:=aNd hp
 have hi:cB m=true:=by simp only[rP,aC] at hp;exact hp.1
 refine⟨100,?_⟩
 obtain⟨⟨c1,c2⟩,⟨c3,c4⟩,⟨c5,c6⟩⟩:=aBo (hf.cls _ (aDV h0 h1))
 unfold aF0 iA
 have hd:m.1.getD c.toNat zCl=bQ m c:=rfl
 have hd2:(bQ m c).1=eB m.1 c:=rfl
 rw[hd,hd2]
 simp only[h0,h1,aK,aI,aA,mO]
 have h8:=hf.classes
 have hok:okL m.1=true:=by unfold okL;simp;omega
 by_cases hs:eB m.1 c<c
 ·have hns:¬eB m.1 c≥c:=by omega
  simp only[hs,hns,aK,bE,aB,eG]
  cases hg:eV m (bQ m c).2.1
  ·rfl
  ·obtain⟨fl,hfl,hfn⟩:=aFY hi h1
   rw[hfl]
   simp only[aZ,aB,aJ,eG,hfn]
   by_cases h8:iL m c≤8
   ·have h8':¬(iL m c:Int)>8:=by omega
    simp only[h8,h8',aK,bE,aB,eG]
    have hup:(bif decide (eB m.1 c≥0) then bif decide (0≤eB m.1 c)&&decide (eB m.1 c<(m.1.length:Int)) then (some (.inl ((m.1.getD (eB m.1 c).toNat zCl).2.2.1,())):Option ((List Int×Unit)⊕(Bool×Unit))) else none else some (.inl (([]:List Int),())))=some (.inl (eO m c,())):=by
     unfold eO
     by_cases hk:0≤eB m.1 c
     ·have a:eB m.1 c≥0:=hk
      have b:eB m.1 c<(m.1.length:Int):=by omega
      simp only[a,b,aK,aI,aA]
      rfl
     ·have a:¬eB m.1 c≥0:=hk
      simp only[a,bE,aB]
    rw[hup]
    simp only[aJ]
    by_cases hu:(eO m c).length≤(bQ m c).2.2.1.length
    ·have hu':¬((bQ m c).2.2.1.length:Int)<((eO m c).length:Int):=by omega
     simp only[hu,hu',aK,bE,aB,eG]
     have key:aE (aAw m c (eO m c,())) 100 ((0:Int),())=bif jE (nV m c) 0 (bQ m c).2.2.1 then some (true,()) else some (false,()):=by
      refine aC8 (st:=fun k=>((k:Int),())) (p:=nV m c) (fun k f rec hk hlt=>?_) (fun rec=>?_) _ (by omega)
      ·rw[aAw]
       obtain⟨f0,f11⟩:=aLn hf h0 h1 hk
       simp only[hd,dlt hlt,dge,aI,aA,aT,getD_some hk,bG hlt (show (bQ m c).2.2.1.length≤lenMax by simp only[lenMax];omega)]
       unfold nV sin
       by_cases hfl:f<(m.2.2.2.1.length:Int)
       ·have hfl':¬f≥(m.2.2.2.1.length:Int):=by omega
        have e1:m.2.2.2.1.getD f.toNat zMt=aD m f:=rfl
        simp only[f0,hfl,hfl',aK,bE,aA,aB,aI,eG,e1]
        unfold vN
        by_cases hpl:0<(aD m f).1.length
        ·have p1:((aD m f).1.length:Int)≠0:=by omega
         have p2:(((aD m f).1.length:Int)==0)=false:=by simpa using p1
         have p3:(0:Int)<((aD m f).1.length:Int):=by omega
         have hrs:lH m.1 ((3:Int),c,()) ((aD m f).1.getD 0 zTp)=some (cG m.1 ((3:Int),c,()) ((aD m f).1.getD 0 zTp),()):=by
          unfold lH;rw[hok,aFe];rfl
         simp only[p2,p3,hpl,aK,aA,aB,eG,hrs,aJ]
         cases hks:cG m.1 ((3:Int),c,()) ((aD m f).1.getD 0 zTp)
         ·rfl
         ·simp only[aZ,aB,eG]
          by_cases hku:k<(eO m c).length
          ·obtain⟨⟨u1,u2⟩,u3⟩:=aJW hh hs hku
           have e2:m.2.2.2.1.getD ((eO m c).getD k 0).toNat zMt=aD m ((eO m c).getD k 0):=rfl
           have q1:(1:Int)≤((aD m f).1.length:Int):=by omega
           have q2:(1:Int)≤((aD m ((eO m c).getD k 0)).1.length:Int):=by omega
           have q3:∀n:Int,decide (n≤n)=true:=fun n=>aG (jJ n)
           simp only[dlt hku,hku,aA,u1,u2,e2,aK,aI,aZ,lC,q1,q2,q3,aP3,tF]
           unfold tP qP
           simp only[hpl,u3,aK,eG]
           cases List.drop 1 (aD m f).1==List.drop 1 (aD m ((eO m c).getD k 0)).1 <;> cases (aD m f).2.2.1==(aD m ((eO m c).getD k 0)).2.2.1 <;> rfl
          ·have:¬(k:Int)<((eO m c).length:Int):=by omega
           simp[this,hku]
        ·have p1:(aD m f).1.length=0:=by omega
         simp[p1]
       ·have hfl':f≥(m.2.2.2.1.length:Int):=by omega
        simp[hfl,hfl']
      ·rw[aAw]
       simp only[hd,bO,aB]
     rw[key]
     cases jE (nV m c) 0 (bQ m c).2.2.1 <;> rfl
    ·have hu':((bQ m c).2.2.1.length:Int)<((eO m c).length:Int):=by omega
     simp[hu,hu']
   ·have h8':(iL m c:Int)>8:=by omega
    simp[h8,h8']
 ·have hns:eB m.1 c≥c:=by omega
  simp[hs,hns]
theorem aMK (m:Im) (x:Mt) (i:Ins) (r) (h:uB m x i=some r):aFS m x i=some r:=by
 unfold uB at h
 cases hp:pT m x&&fF i <;> simp only[hp,aA,aB] at h
 ·cases h
 injection h with h
 subst h
 simp only[aC,pT] at hp
 obtain⟨⟨hi,ha,hx⟩,hg⟩:=hp
 obtain⟨⟨x1,_⟩,⟨x2,_⟩,_,⟨x4,_⟩,_⟩:=mS hx
 obtain⟨_,⟨a0,_⟩,⟨b0,_⟩,_,_⟩:=aDw hg
 unfold aFS bZ
 have hw:IntKind.i64.wrap ((x.1.length:Int)+(x.2.1.length:Int))=((x.1.length+x.2.1.length:Nat):Int):=by
  rw[cT (by omega) (by omega)];omega
 rw[hw]
 have sa:∀n:Int,sin i.2.1 n=decide (i.2.1<n):=fun n=>by unfold sin;rw[aG a0];rfl
 have sb:∀n:Int,sin i.2.2.1 n=decide (i.2.2.1<n):=fun n=>by unfold sin;rw[aG b0];rfl
 simp only[sa,sb]
 have h27:(bif decide (i.2.1<(m.1.length:Int)) then (iH m i.2.1).bind fun r9=>(some (decide (i.2.2.1<(r9.1.length:Int)),()):Option (Bool×Unit)) else some (false,()))=
   some (decide (i.2.1<(m.1.length:Int))&&decide (i.2.2.1<(iL m i.2.1:Int)),()):=by
  by_cases h1:i.2.1<(m.1.length:Int)
  ·obtain⟨fl,hfl,hfn⟩:=aFY hi h1
   simp[h1,hfl,hfn]
  ·simp[h1]
 have h32:(bif decide (i.2.1<(m.1.length:Int)) then (bif decide (0≤i.2.1)&&decide (i.2.1<m.1.length) then (some (decide (i.2.2.1<((m.1.getD i.2.1.toNat zCl).2.2.1.length:Int)),()):Option (Bool×Unit)) else none) else some (false,()))=
   some (decide (i.2.1<(m.1.length:Int))&&decide (i.2.2.1<((bQ m i.2.1).2.2.1.length:Int)),()):=by
  by_cases h1:i.2.1<(m.1.length:Int)
  ·simp only[h1,a0,aK,aI,aA,eG]
   rfl
  ·simp[h1]
 simp only[h27,h32]
 cases i.1==1 <;> cases i.1==3 <;> cases i.1==4 <;> cases i.1==18 <;> cases i.1==19 <;> try rfl
 all_goals (cases i.1==22 <;> cases i.1==34 <;> cases i.1==27 <;> cases i.1==28 <;> cases i.1==29 <;> cases i.1==30 <;> cases i.1==31 <;> cases i.1==32 <;> rfl)
theorem aMM (m:Im) (x:Mt) (r) (h:uC m x=some r):∃k,aFT k m x=some r:=by
 unfold uC at h
 cases hp:pT m x <;> simp only[hp,aA,aB] at h
 ·cases h
 injection h with h
 subst h
 have hp':=hp
 simp only[aC,pT] at hp
 obtain⟨hi,ha,hx⟩:=hp
 obtain⟨⟨x1,_⟩,⟨x2,_⟩,_,⟨x4,x5⟩,_⟩:=mS hx
 refine⟨100,?_⟩
 have key:aE (aAo m x) 100 ((0:Int),())=bif x.2.2.2.1.all (bZ m x) then some (true,()) else some (false,()):=by
  refine lO (st:=fun k=>((k:Int),())) (p:=bZ m x) (fun k i rec hk hlt=>?_) (fun rec=>?_) _ (by omega)
  ·rw[aAo]
   have hsi:uB m x i=some (bZ m x i,()):=by unfold uB;rw[hp',x5 i (kB hk)];rfl
   simp only[dlt hlt,dge,aI,aA,aT,getD_some hk,bG hlt (show x.2.2.2.1.length≤lenMax by simp only[lenMax];omega),hsi,aJ]
   cases bZ m x i <;> rfl
  ·rw[aAo]
   simp only[bO,aB]
 unfold aFT eU
 rw[key,cT (by omega) (by omega),aDg]
 have hret:((x.2.2.1.1==5)&&((x.2.2.1.2.1==0)&&true))=(x.2.2.1==(5,0,())):=tF x.2.2.1 (5,0,())
 rw[hret]
 have hz:((x.2.2.2.1.length:Int)==0)=decide (x.2.2.2.1.length=0):=by
  by_cases hz:x.2.2.2.1.length=0
  ·simp[hz]
  ·have:¬((x.2.2.2.1.length:Int)=0):=by omega
   simp[hz]
 have h8:decide ((x.1.length:Int)+(x.2.1.length:Int)>8)= !decide (x.1.length+x.2.1.length≤8):=by
  by_cases h8:x.1.length+x.2.1.length≤8
  ·have:¬((x.1.length:Int)+(x.2.1.length:Int)>8):=by omega
   simp[h8,this]
  ·have:((x.1.length:Int)+(x.2.1.length:Int)>8):=by omega
   simp[h8,this]
 have hne:decide (x.2.2.2.1.length≠0)= !decide (x.2.2.2.1.length=0):=by by_cases h:x.2.2.2.1.length=0 <;> simp[h]
 rw[hz,h8,hne]
 unfold mO rK
 cases eV m x.1 <;> cases eV m x.2.1 <;> cases x.2.2.1==(5,0,()) <;> cases fO x.2.2.1 (m.1.length:Int) <;> cases decide (x.2.2.2.1.length=0) <;> try rfl
 all_goals (cases decide (x.2.2.2.2.2.2.1.length=x.2.2.2.1.length) <;> cases decide (x.1.length+x.2.1.length≤8) <;> cases x.2.2.2.1.all (bZ m x) <;> rfl)
theorem aAj {α:Type} (p:α→Bool) (d:α):∀l:List α,(List.range l.length).all (fun k=>p (l.getD k d))=l.all p
 | []=>rfl
 | x::l=>by
  have ih:=aAj p d l
  rw[aF,List.range_succ_eq_map]
  simp only[eY,List.all_map,List.getD_cons_zero]
  rw[←ih]
  rfl
theorem aMI (m:Im) (_:aMJ m):∃k,aFR k m=some (rM m,()):=by
 refine⟨100,?_⟩
 unfold aFR rM xE rN
 cases hi:cB m
 ·rfl
 have hf:=dI hi
 simp only[aZ,aB,aA,mO]
 have h8:=hf.classes
 have h12:=hf.methods
 have hent:=hf.entries
 simp only[jB,fE,aC,aP,bL] at hent
 have k1:aE (uA m) 100 (eV m m.2.1,((0:Int),()))=some (.inl (eV m m.2.1&&kA m,())):=by
  have h:=aAV (L:=uA m) (N:=m.1.length) (q:=fun k=>iA m (k:Int)) (fin:=fun b=>some (.inl (b,()))) (fun k rec hlt hh=> .inl ?_) (fun k rec _=>?_) (fun rec=>?_) 100 (eV m m.2.1) (by omega)
  ·exact h
  ·rw[uA]
   have hpc:rP m (k:Int)=true:=by
    simp only[rP,aC,aP]
    exact⟨hi,by omega,by omega,xM.2 fun j hj=>hh j (by omega)⟩
   have hsc:uD m (k:Int)=some (iA m (k:Int),()):=by unfold uD;rw[hpc];rfl
   simp only[dlt hlt,aA,hsc,aJ,bG hlt (show m.1.length≤lenMax by simp only[lenMax];omega)]
  ·rw[uA]
   cases decide ((k:Int)<(m.1.length:Int)) <;> rfl
  ·rw[uA]
   simp only[bO,aB]
 rw[k1]
 simp only[aJ]
 have k2:aE (rL m) 100 (eV m m.2.1&&kA m,((0:Int),()))=some (.inl (eV m m.2.1&&kA m&&m.2.2.2.1.all (eU m),())):=by
  cases hac:kA m with
  | false=>
   simp only[zO,lD]
   rw[show (100:Nat)=99+1 from rfl,aY,rL]
   cases decide ((0:Int)<(m.2.2.2.1.length:Int)) <;> rfl
  | true=>
   rw[←aAj (eU m) zMt]
   have h:=aAV (L:=rL m) (N:=m.2.2.2.1.length) (q:=fun k=>eU m (m.2.2.2.1.getD k zMt)) (fin:=fun b=>some (.inl (b,()))) (fun k rec hlt hh=> .inl ?_) (fun k rec _=>?_) (fun rec=>?_) 100 (eV m m.2.1&&true) (by omega)
   ·exact h
   ·rw[rL]
    have hg:=aW hlt
    have hpm:pT m m.2.2.2.1[k]=true:=by
     simp only[pT,aC]
     exact⟨hi,hac,hf.mts _ (eE hlt)⟩
    have hsm:uC m m.2.2.2.1[k]=some (eU m m.2.2.2.1[k],()):=by unfold uC;rw[hpm];rfl
    simp only[dlt hlt,dge,aI,aA,aT,getD_some hg,hsm,aJ,bG hlt (show m.2.2.2.1.length≤lenMax by simp only[lenMax];omega)]
   ·rw[rL]
    cases decide ((k:Int)<(m.2.2.2.1.length:Int)) <;> rfl
   ·rw[rL]
    simp only[bO,aB]
 rw[k2]
 simp only[aJ]
 have hsB:jO m=(eV m m.2.1&&kA m&&m.2.2.2.1.all (eU m)&&m.2.2.2.2.1.all (qF m)):=by
  unfold jO
  rw[Bool.and_assoc,Bool.and_assoc]
 rw[hsB]
 cases hb:eV m m.2.1&&kA m&&m.2.2.2.1.all (eU m) with
 | false=>
  rw[show (100:Nat)=99+1 from rfl,aY,tZ]
  cases decide ((0:Int)<(m.2.2.2.2.1.length:Int)) <;> rfl
 | true=>
  rw[eG,←aAj (qF m) 0]
  have hmB:∀x∈m.2.2.2.1,eU m x=true:=by
   simp only[aC,bL] at hb
   exact hb.2
  have k4:=aAV (L:=tZ m 100) (N:=m.2.2.2.2.1.length) (q:=fun k=>qF m (m.2.2.2.2.1.getD k 0)) (fin:=fun b=>bif b then some ((0:Int),()) else some ((3:Int),())) (fun k rec hlt hh=>?_) (fun k rec _=>?_) (fun rec=>?_) 100 true (by omega)
  ·refine Eq.trans k4 ?_
   cases (List.range m.2.2.2.2.1.length).all fun k=>qF m (m.2.2.2.2.1.getD k 0) <;> rfl
  ·have hg:=aW hlt
   obtain⟨f0,f11⟩:=hent.2 _ (eE hlt)
   rw[tZ]
   simp only[dlt hlt,dge,aI,aA,aT,getD_some hg]
   by_cases hfl:m.2.2.2.2.1[k]<(m.2.2.2.1.length:Int)
   ·refine .inl ?_
    have hfl':¬m.2.2.2.2.1[k]≥(m.2.2.2.1.length:Int):=by omega
    have e1:m.2.2.2.1.getD (m.2.2.2.2.1[k]).toNat zMt=aD m m.2.2.2.2.1[k]:=rfl
    simp only[f0,hfl,hfl',aK,bE,aA,aB,aI,e1]
    have hmm:=rX f0 hfl
    have hmb:=hmB _ hmm
    have hm4:=(mS (hf.mts _ hmm)).1.1
    simp only[eU,aC] at hmb
    obtain⟨hgp,_,hgr,_⟩:=hmb
    have hkg:∀t:Tp,fO t (m.1.length:Int)=true→pM t=(t.1==1):=fun t ht=>by
     unfold pM
     cases h1:t.1==1
     ·rfl
     ·unfold fO at ht
      rw[h1] at ht
      simpa using ht
    have hre:(pM (aD m m.2.2.2.2.1[k]).2.2.1 || (aD m m.2.2.2.2.1[k]).2.2.1.1==5)=((aD m m.2.2.2.2.1[k]).2.2.1.1==1 || (aD m m.2.2.2.2.1[k]).2.2.1.1==5):=by
     cases h5:(aD m m.2.2.2.2.1[k]).2.2.1.1==5
     ·have:fO (aD m m.2.2.2.2.1[k]).2.2.1 (m.1.length:Int)=true:=by
       rcases fW _ _ ▸ hgr with h | h
       ·have:(aD m m.2.2.2.2.1[k]).2.2.1=(5,0,()):=by simpa using h
        rw[this] at h5;simp at h5
       ·exact h
      rw[hkg _ this]
     ·simp
    have hall:(aD m m.2.2.2.2.1[k]).1.all pM=(aD m m.2.2.2.2.1[k]).1.all fun t=>t.1==1:=by
     have hgp':∀t∈(aD m m.2.2.2.2.1[k]).1,fO t (m.1.length:Int)=true:=by simpa[eV] using hgp
     have key:∀l:List Tp,(∀t∈l,fO t (m.1.length:Int)=true)→l.all pM=l.all fun t=>t.1==1:=by
      intro l
      induction l with
      | nil=>intro _;rfl
      | cons t l ih=>
       intro hl
       rw[eY,eY,hkg t (hl t (by simp)),ih fun t' h=>hl t' (by simp[h])]
     exact key _ hgp'
    have hbool:(bif (aD m m.2.2.2.2.1[k]).2.2.1.1==1 then (some (.inl (true,())):Option ((Bool×Unit)⊕(Int×Unit))) else some (.inl ((aD m m.2.2.2.2.1[k]).2.2.1.1==5,())))=some (.inl ((aD m m.2.2.2.2.1[k]).2.2.1.1==1 || (aD m m.2.2.2.2.1[k]).2.2.1.1==5,())):=by
     cases (aD m m.2.2.2.2.1[k]).2.2.1.1==1 <;> rfl
    rw[hbool,←hre]
    simp only[aJ]
    have hin:=aAV (L:=xT m (true,(k:Int),()) rec) (N:=(aD m m.2.2.2.2.1[k]).1.length) (q:=fun j=>((aD m m.2.2.2.2.1[k]).1.getD j zTp).1==1) (fin:=fun b=>rec (b,((k+1:Nat):Int),())) (fun j rec2 hj hh=> .inl ?_) (fun j rec2 _=>?_) (fun rec2=>?_) 100 (pM (aD m m.2.2.2.2.1[k]).2.2.1 || (aD m m.2.2.2.2.1[k]).2.2.1.1==5) (by omega)
    ·refine Eq.trans hin ?_
     have hr:=aAj (fun t:Tp=>t.1==1) zTp (aD m m.2.2.2.2.1[k]).1
     have:(List.range (aD m m.2.2.2.2.1[k]).1.length).all (fun j=>((aD m m.2.2.2.2.1[k]).1.getD j zTp).1==1)=(aD m m.2.2.2.2.1[k]).1.all fun t=>t.1==1:=hr
     rw[this,←hall]
     unfold qF sin
     simp only[f0,hfl,aK,eG]
    ·rw[xT]
     simp only[aT,getD_some hg,f0,hfl,aK,aI,aA,e1,dlt hj,dge,bG hj (show (aD m m.2.2.2.2.1[k]).1.length≤lenMax by simp only[lenMax];omega)]
    ·rw[xT]
     simp only[aT,getD_some hg,f0,hfl,aK,aI,aA,aB,e1,bG hlt (show m.2.2.2.2.1.length≤lenMax by simp only[lenMax];omega)]
     cases decide ((j:Int)<((aD m m.2.2.2.2.1[k]).1.length:Int)) <;> rfl
    ·rw[xT]
     simp only[aT,getD_some hg,f0,hfl,aK,aI,aA,aB,e1,bO,bG hlt (show m.2.2.2.2.1.length≤lenMax by simp only[lenMax];omega)]
   ·refine .inr ⟨?_,?_⟩
    ·unfold qF sin
     simp[hfl]
    ·have hfl':m.2.2.2.2.1[k]≥(m.2.2.2.1.length:Int):=by omega
     simp only[hfl',aK,aA,aB]
  ·rw[tZ]
   cases decide ((k:Int)<(m.2.2.2.2.1.length:Int)) <;> rfl
  ·rw[tZ]
   simp only[bO,aB,aZ,aA]
end Go.Pli

namespace Go.Pli
open Go Go.PM
theorem aBE {α:Type} {l:List α} (h:l.length<1000000):decide (([]:List α).length+l.length<rowMax)=true:=aG (by simp[rowMax];omega)
theorem aBG {l:List Tp} (h:l.length<1000000):sT l=some (l,()):=by unfold sT aBq;rw[aBE h];rfl
theorem aRA {l:List Int} (h:l.length<1000000):aBH l=some (l,()):=by unfold aBH aBr;rw[aBE h];rfl
theorem aD6 {l:List Int} (h:l.length<1000000):wD l=some (l,()):=by unfold wD aBs;rw[aBE h];rfl
theorem aRx {l:List Ins} (h:l.length<1000000):aBF l=some (l,()):=by unfold aBF aBp;rw[aBE h];rfl
theorem aG9 {α β σ R:Type} {L:σ→(σ→Option R)→Option R} {xs:List α} {f:α→β} {st:Nat→List β→σ} {fin:Option R}
  (h1:∀(k:Nat) (x:α) (acc:List β) (rec),xs[k]? =some x→k<xs.length→acc.length=k→L (st k acc) rec=rec (st (k+1) (acc++[f x])))
  (h2:∀rec,L (st xs.length (xs.map f)) rec=fin):∀F:Nat,xs.length<F→aE L F (st 0 [])=fin:=by
 have key:∀(l pre:List α) (F:Nat),xs=pre++l→l.length<F→aE L F (st pre.length (pre.map f))=fin:=by
  intro l
  induction l with
  | nil=>
   intro pre F hx hF
   obtain⟨F,rfl⟩:∃n,F=n+1:=⟨F - 1,by simp at hF;omega⟩
   rw[bS] at hx
   subst hx
   rw[aY,h2]
  | cons x l ih=>
   intro pre F hx hF
   obtain⟨F,rfl⟩:∃n,F=n+1:=⟨F - 1,by simp at hF;omega⟩
   have hk:xs[pre.length]? =some x:=by rw[hx];simp
   have hl:pre.length<xs.length:=by rw[hx];simp
   rw[aY,h1 pre.length x _ _ hk hl (by simp)]
   have:=ih (pre++[x]) F (by rw[hx];simp) (by simp only[aF] at hF;omega)
   simpa using this
 intro F hF
 exact key xs [] F rfl hF
end Go.Pli

namespace Go.Pli
open Go Go.PM
end Go.Pli

namespace Go.Pli
open Go Go.PM
end Go.Pli

