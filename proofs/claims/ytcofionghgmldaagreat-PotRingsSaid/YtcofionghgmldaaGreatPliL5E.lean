/- Sane, by the reference: what the functions come to. -/
import Derived.Test.YtcofionghgmldaaGreatPliL5A
namespace Go.Pli
open Go Go.PM
theorem oJ {l:List Cl} {x:Int}:∀(n:Nat) (c:Int),c.toNat<n→x∈cC l c→0≤x∧x≤c
 | 0,_,h,_=>by omega
 | n+1,c,h,hx=>by
  by_cases hc:c<0
  ·rw[fK hc] at hx;simp at hx
  ·rw[hJ (by omega)] at hx
   have hlt:=lL (l:=l) (c:=c) (by omega)
   rcases bJ.1 hx with rfl | hx
   ·omega
   ·by_cases hk:kup l c<0
    ·rw[fK hk] at hx;simp at hx
    ·have:=oJ n (kup l c) (by omega) hx
     omega
theorem aF2 (l:List Cl) (c:Int) (b:Tp):uX l (3,c,()) b=cK l (3,c,()) b:=by
 unfold uX cK
 have h4:((3:Int)==4)=false:=rfl
 have h3:((3:Int)==3)=true:=rfl
 simp only[h4,h3,aA,aB,eK]
 cases hb:b.1==3
 ·have hne:((((3:Int),c,()):Tp)==b)=false:=by
   rw[←uM]
   have:((3:Int)==b.1)=false:=by
    simp only[rO,ne_eq] at hb⊢
    exact fun h=>hb h.symm
   simp[this]
  simp[hne]
 ·simp only[aA,eK]
  unfold cB dI
  by_cases hc:c<(l.length:Int)
  ·simp only[hc,aM,aA,eK]
   cases hm:(cC l c).contains b.2.1
   ·simp
   ·have hm':b.2.1∈cC l c:=by simpa using hm
    have:=oJ (c.toNat+1) c (by omega) hm'
    have a1:0≤b.2.1:=this.1
    have a2:b.2.1<(l.length:Int):=by omega
    simp[a1,a2]
  ·simp[hc]
theorem aNt {l:List Cl} {c x:Int} (h:x∈cB l c):0≤x∧x<(l.length:Int):=by
 unfold cB at h
 by_cases hc:c<(l.length:Int)
 ·simp only[hc,aM,aA] at h
  have:=oJ (c.toNat+1) c (by omega) h
  omega
 ·simp[hc] at h
theorem aGx {l:List Cl} {c:Int}:(cB l c).length≤l.length+1:=by
 unfold cB
 by_cases hc:c<(l.length:Int)
 ·simp only[hc,aM,aA]
  have:=tW l (c.toNat+1) c (by omega)
  omega
 ·simp[hc]
theorem aJm (m:Im) (hf:Fit m) (rs:List Int) (hr:∀x∈rs,0≤x∧x<(m.1.length:Int)):∀(k F:Nat) (out:List Tp),k≤rs.length→k<100→k<F→out.length+8*k<10000→
  aE (aA2 m (rs,())) F (out,(k:Int) - 1,())=some (out++(((rs.take k).reverse).map fun s=>(bX m s).2.1).flatten,())
 | 0,F,out,_,_,hF,_=>by
  obtain⟨F,rfl⟩:∃n,F=n+1:=⟨F - 1,by omega⟩
  rw[aY,aA2]
  simp
 | k+1,F,out,hk,hk100,hF,ho=>by
  obtain⟨F,rfl⟩:∃n,F=n+1:=⟨F - 1,by omega⟩
  have hlt:k<rs.length:=by omega
  have hg:=aT hlt
  have hmem:rs[k]∈rs:=dU hlt
  obtain⟨x0,x1⟩:=hr _ hmem
  have hcls:=(zY (hf.cls _ (aB1 x0 x1))).2.1.1
  have hd:m.1.getD (rs[k]).toNat zCl=bX m rs[k]:=rfl
  have e:(((k+1:Nat):Int) - 1)=(k:Int):=by omega
  rw[aY,aA2,e]
  have hroom:out.length+(bX m rs[k]).2.1.length<rowMax:=by simp only[rowMax];omega
  have hge:decide ((k:Int)≥0)=true:=aRq k
  simp only[hge,dlt hlt,aH,aA,aR,getD_some hg,x0,x1,hd,hroom,aM]
  rw[cT (by omega) (by omega),aJm m hf rs hr k F _ (by omega) (by omega) (by omega) (by simp only[aX];omega)]
  rw[List.take_succ_eq_append_getElem hlt]
  simp only[List.reverse_append,List.reverse_cons,List.reverse_nil,qD,rU,dM,fY,cF]
theorem aJo (m:Im):∀l:List Int,(((l.reverse).map fun s=>(bX m s).2.1).flatten).length=bC (l.map fun s=>(bX m s).2.1.length)
 | []=>rfl
 | x::l=>by
  have ih:=aJo m l
  simp only[List.reverse_cons,kB,dM,List.map_nil,iN,fY,kC,bZ,aX,bC]
  omega
theorem aN5 (m:Im) (c:Int) (r) (h:iZ m c=some r):∃k,aGU k m c=some r:=by
 unfold iZ at h
 cases hi:bW m <;> simp only[hi,aA,aB] at h
 ·cases h
 injection h with h
 subst h
 have hf:=cV hi
 have h8:=hf.classes
 have hok:okL m.1=true:=by unfold okL;simp;omega
 have hlen:=aGx (l:=m.1) (c:=c)
 refine⟨100,?_⟩
 unfold aGU jN
 rw[hok]
 simp only[aA,aJ]
 rw[cT (by omega) (by omega),aJm m hf _ (fun x hx=>aNt hx) (cB m.1 c).length 100 [] (by omega) (by omega) (by omega) (by simp;omega),iA]
 simp
theorem aGT {m:Im} {c:Int} (hi:bW m=true) (h1:c<(m.1.length:Int)):∃l:List Tp,iZ m c=some (l,())∧l.length=jD m c:=by
 unfold iZ
 rw[hi]
 refine⟨_,rfl,?_⟩
 rw[aJo]
 unfold jD cB
 simp[h1]
theorem aN6 (m:Im) (c:Int) (r) (h:vJ m c=some r):∃k,aGV k m c=some r:=by
 unfold vJ at h
 cases hp:sU m c <;> simp only[hp,aA,aB] at h
 ·cases h
 injection h with h
 subst h
 obtain⟨hf,h0,h1,hh⟩:=aOh hp
 have hi:bW m=true:=by simp only[sU,aC] at hp;exact hp.1
 refine⟨100,?_⟩
 obtain⟨⟨c1,c2⟩,⟨c3,c4⟩,⟨c5,c6⟩⟩:=zY (hf.cls _ (aB1 h0 h1))
 unfold aGV iS
 have hd:m.1.getD c.toNat zCl=bX m c:=rfl
 have hd2:(bX m c).1=eF m.1 c:=rfl
 rw[hd,hd2]
 simp only[h0,h1,aM,aH,aA,nN]
 have h8:=hf.classes
 have hok:okL m.1=true:=by unfold okL;simp;omega
 by_cases hs:eF m.1 c<c
 ·have hns:¬eF m.1 c≥c:=by omega
  simp only[hs,hns,aM,bQ,aB,eK]
  cases hg:fH m (bX m c).2.1
  ·rfl
  ·obtain⟨fl,hfl,hfn⟩:=aGT hi h1
   rw[hfl]
   simp only[bA,aB,aJ,eK,hfn]
   by_cases h8:jD m c≤8
   ·have h8':¬(jD m c:Int)>8:=by omega
    simp only[h8,h8',aM,bQ,aB,eK]
    have hup:(bif decide (eF m.1 c≥0) then bif decide (0≤eF m.1 c)&&decide (eF m.1 c<(m.1.length:Int)) then (some (.inl ((m.1.getD (eF m.1 c).toNat zCl).2.2.1,())):Option ((List Int×Unit)⊕(Bool×Unit))) else none else some (.inl (([]:List Int),())))=some (.inl (eW m c,())):=by
     unfold eW
     by_cases hk:0≤eF m.1 c
     ·have a:eF m.1 c≥0:=hk
      have b:eF m.1 c<(m.1.length:Int):=by omega
      simp only[a,b,aM,aH,aA]
      rfl
     ·have a:¬eF m.1 c≥0:=hk
      simp only[a,bQ,aB]
    rw[hup]
    simp only[aJ]
    by_cases hu:(eW m c).length≤(bX m c).2.2.1.length
    ·have hu':¬((bX m c).2.2.1.length:Int)<((eW m c).length:Int):=by omega
     simp only[hu,hu',aM,bQ,aB,eK]
     have key:aE (aA3 m c (eW m c,())) 100 ((0:Int),())=bif jY (oU m c) 0 (bX m c).2.2.1 then some (true,()) else some (false,()):=by
      refine aDQ (st:=fun k=>((k:Int),())) (p:=oU m c) (fun k f rec hk hlt=>?_) (fun rec=>?_) _ (by omega)
      ·rw[aA3]
       obtain⟨f0,f11⟩:=aMz hf h0 h1 hk
       simp only[hd,dlt hlt,dge,aH,aA,aR,getD_some hk,bB hlt (show (bX m c).2.2.1.length≤lenMax by simp only[lenMax];omega)]
       unfold oU sin
       by_cases hfl:f<(m.2.2.2.1.length:Int)
       ·have hfl':¬f≥(m.2.2.2.1.length:Int):=by omega
        have e1:m.2.2.2.1.getD f.toNat zMt=aD m f:=rfl
        simp only[f0,hfl,hfl',aM,bQ,aA,aB,aH,eK,e1]
        unfold wP
        by_cases hpl:0<(aD m f).1.length
        ·have p1:((aD m f).1.length:Int)≠0:=by omega
         have p2:(((aD m f).1.length:Int)==0)=false:=by simpa using p1
         have p3:(0:Int)<((aD m f).1.length:Int):=by omega
         have hrs:mH m.1 ((3:Int),c,()) ((aD m f).1.getD 0 zTp)=some (cK m.1 ((3:Int),c,()) ((aD m f).1.getD 0 zTp),()):=by
          unfold mH;rw[hok,aF2];rfl
         simp only[p2,p3,hpl,aM,aA,aB,eK,hrs,aJ]
         cases hks:cK m.1 ((3:Int),c,()) ((aD m f).1.getD 0 zTp)
         ·rfl
         ·simp only[bA,aB,eK]
          by_cases hku:k<(eW m c).length
          ·obtain⟨⟨u1,u2⟩,u3⟩:=aK6 hh hs hku
           have e2:m.2.2.2.1.getD ((eW m c).getD k 0).toNat zMt=aD m ((eW m c).getD k 0):=rfl
           have q1:(1:Int)≤((aD m f).1.length:Int):=by omega
           have q2:(1:Int)≤((aD m ((eW m c).getD k 0)).1.length:Int):=by omega
           have q3:∀n:Int,decide (n≤n)=true:=fun n=>aI (eV n)
           simp only[dlt hku,hku,aA,u1,u2,e2,aM,aH,bA,mB,q1,q2,q3,aRn,uM]
           unfold uW rP
           simp only[hpl,u3,aM,eK]
           cases List.drop 1 (aD m f).1==List.drop 1 (aD m ((eW m c).getD k 0)).1 <;> cases (aD m f).2.2.1==(aD m ((eW m c).getD k 0)).2.2.1 <;> rfl
          ·have:¬(k:Int)<((eW m c).length:Int):=by omega
           simp[this,hku]
        ·have p1:(aD m f).1.length=0:=by omega
         simp[p1]
       ·have hfl':f≥(m.2.2.2.1.length:Int):=by omega
        simp[hfl,hfl']
      ·rw[aA3]
       simp only[hd,bH,aB]
     rw[key]
     cases jY (oU m c) 0 (bX m c).2.2.1 <;> rfl
    ·have hu':((bX m c).2.2.1.length:Int)<((eW m c).length:Int):=by omega
     simp[hu,hu']
   ·have h8':(jD m c:Int)>8:=by omega
    simp[h8,h8']
 ·have hns:eF m.1 c≥c:=by omega
  simp[hs,hns]
theorem aNQ (m:Im) (x:Mt) (i:Ins) (r) (h:vH m x i=some r):aGN m x i=some r:=by
 unfold vH at h
 cases hp:qS m x&&fG i <;> simp only[hp,aA,aB] at h
 ·cases h
 injection h with h
 subst h
 simp only[aC,qS] at hp
 obtain⟨⟨hi,ha,hx⟩,hg⟩:=hp
 obtain⟨⟨x1,_⟩,⟨x2,_⟩,_,⟨x4,_⟩,_⟩:=lH hx
 obtain⟨_,⟨a0,_⟩,⟨b0,_⟩,_,_⟩:=aEc hg
 unfold aGN cG
 have hw:IntKind.i64.wrap ((x.1.length:Int)+(x.2.1.length:Int))=((x.1.length+x.2.1.length:Nat):Int):=by
  rw[cT (by omega) (by omega)];omega
 rw[hw]
 have sa:∀n:Int,sin i.2.1 n=decide (i.2.1<n):=fun n=>by unfold sin;rw[aI a0];rfl
 have sb:∀n:Int,sin i.2.2.1 n=decide (i.2.2.1<n):=fun n=>by unfold sin;rw[aI b0];rfl
 simp only[sa,sb]
 have h27:(bif decide (i.2.1<(m.1.length:Int)) then (iZ m i.2.1).bind fun r9=>(some (decide (i.2.2.1<(r9.1.length:Int)),()):Option (Bool×Unit)) else some (false,()))=
   some (decide (i.2.1<(m.1.length:Int))&&decide (i.2.2.1<(jD m i.2.1:Int)),()):=by
  by_cases h1:i.2.1<(m.1.length:Int)
  ·obtain⟨fl,hfl,hfn⟩:=aGT hi h1
   simp[h1,hfl,hfn]
  ·simp[h1]
 have h32:(bif decide (i.2.1<(m.1.length:Int)) then (bif decide (0≤i.2.1)&&decide (i.2.1<m.1.length) then (some (decide (i.2.2.1<((m.1.getD i.2.1.toNat zCl).2.2.1.length:Int)),()):Option (Bool×Unit)) else none) else some (false,()))=
   some (decide (i.2.1<(m.1.length:Int))&&decide (i.2.2.1<((bX m i.2.1).2.2.1.length:Int)),()):=by
  by_cases h1:i.2.1<(m.1.length:Int)
  ·simp only[h1,a0,aM,aH,aA,eK]
   rfl
  ·simp[h1]
 simp only[h27,h32]
 cases i.1==1 <;> cases i.1==3 <;> cases i.1==4 <;> cases i.1==18 <;> cases i.1==19 <;> try rfl
 all_goals (cases i.1==22 <;> cases i.1==34 <;> cases i.1==27 <;> cases i.1==28 <;> cases i.1==29 <;> cases i.1==30 <;> cases i.1==31 <;> cases i.1==32 <;> rfl)
theorem aNS (m:Im) (x:Mt) (r) (h:vI m x=some r):∃k,aGO k m x=some r:=by
 unfold vI at h
 cases hp:qS m x <;> simp only[hp,aA,aB] at h
 ·cases h
 injection h with h
 subst h
 have hp':=hp
 simp only[aC,qS] at hp
 obtain⟨hi,ha,hx⟩:=hp
 obtain⟨⟨x1,_⟩,⟨x2,_⟩,_,⟨x4,x5⟩,_⟩:=lH hx
 refine⟨100,?_⟩
 have key:aE (aAV m x) 100 ((0:Int),())=bif x.2.2.2.1.all (cG m x) then some (true,()) else some (false,()):=by
  refine lJ (st:=fun k=>((k:Int),())) (p:=cG m x) (fun k i rec hk hlt=>?_) (fun rec=>?_) _ (by omega)
  ·rw[aAV]
   have hsi:vH m x i=some (cG m x i,()):=by unfold vH;rw[hp',x5 i (kY hk)];rfl
   simp only[dlt hlt,dge,aH,aA,aR,getD_some hk,bB hlt (show x.2.2.2.1.length≤lenMax by simp only[lenMax];omega),hsi,aJ]
   cases cG m x i <;> rfl
  ·rw[aAV]
   simp only[bH,aB]
 unfold aGO fF
 rw[key,cT (by omega) (by omega),aIm]
 have hret:((x.2.2.1.1==5)&&((x.2.2.1.2.1==0)&&true))=(x.2.2.1==(5,0,())):=uM x.2.2.1 (5,0,())
 rw[hret]
 have hz:((x.2.2.2.1.length:Int)==0)=decide (x.2.2.2.1.length=0):=by
  by_cases hz:x.2.2.2.1.length=0
  ·simp[hz]
  ·have:¬((x.2.2.2.1.length:Int)=0):=by omega
   simp[hz]
 have h8:decide ((x.1.length:Int)+(x.2.1.length:Int)>8)= !decide (x.1.length+x.2.1.length≤8):=by
  by_cases h8:x.1.length+x.2.1.length≤8
  ·have:¬((x.1.length:Int)+(x.2.1.length:Int)>8):=by omega
   simp[h8,this]
  ·have:((x.1.length:Int)+(x.2.1.length:Int)>8):=by omega
   simp[h8,this]
 have hne:decide (x.2.2.2.1.length≠0)= !decide (x.2.2.2.1.length=0):=by by_cases h:x.2.2.2.1.length=0 <;> simp[h]
 rw[hz,h8,hne]
 unfold nN sN
 cases fH m x.1 <;> cases fH m x.2.1 <;> cases x.2.2.1==(5,0,()) <;> cases gD x.2.2.1 (m.1.length:Int) <;> cases decide (x.2.2.2.1.length=0) <;> try rfl
 all_goals (cases decide (x.2.2.2.2.2.2.1.length=x.2.2.2.1.length) <;> cases decide (x.1.length+x.2.1.length≤8) <;> cases x.2.2.2.1.all (cG m x) <;> rfl)
theorem aAK {α:Type} (p:α→Bool) (d:α):∀l:List α,(List.range l.length).all (fun k=>p (l.getD k d))=l.all p
 | []=>rfl
 | x::l=>by
  have ih:=aAK p d l
  rw[aF,List.range_succ_eq_map]
  simp only[fM,List.all_map,List.getD_cons_zero]
  rw[←ih]
  rfl
theorem aNO (m:Im) (_:aNP m):∃k,aGM k m=some (sP m,()):=by
 refine⟨100,?_⟩
 unfold aGM sP yC sQ
 cases hi:bW m
 ·rfl
 have hf:=cV hi
 simp only[bA,aB,aA,nN]
 have h8:=hf.classes
 have h12:=hf.methods
 have hent:=hf.entries
 simp only[jV,fS,aC,aP,bM] at hent
 have k1:aE (vG m) 100 (fH m m.2.1,((0:Int),()))=some (.inl (fH m m.2.1&&kX m,())):=by
  have h:=aBv (L:=vG m) (N:=m.1.length) (q:=fun k=>iS m (k:Int)) (fin:=fun b=>some (.inl (b,()))) (fun k rec hlt hh=> .inl ?_) (fun k rec _=>?_) (fun rec=>?_) 100 (fH m m.2.1) (by omega)
  ·exact h
  ·rw[vG]
   have hpc:sU m (k:Int)=true:=by
    simp only[sU,aC,aP]
    exact⟨hi,by omega,by omega,yK.2 fun j hj=>hh j (by omega)⟩
   have hsc:vJ m (k:Int)=some (iS m (k:Int),()):=by unfold vJ;rw[hpc];rfl
   simp only[dlt hlt,aA,hsc,aJ,bB hlt (show m.1.length≤lenMax by simp only[lenMax];omega)]
  ·rw[vG]
   cases decide ((k:Int)<(m.1.length:Int)) <;> rfl
  ·rw[vG]
   simp only[bH,aB]
 rw[k1]
 simp only[aJ]
 have k2:aE (sO m) 100 (fH m m.2.1&&kX m,((0:Int),()))=some (.inl (fH m m.2.1&&kX m&&m.2.2.2.1.all (fF m),())):=by
  cases hac:kX m with
  | false=>
   simp only[aAl,mC]
   rw[show (100:Nat)=99+1 from rfl,aY,sO]
   cases decide ((0:Int)<(m.2.2.2.1.length:Int)) <;> rfl
  | true=>
   rw[←aAK (fF m) zMt]
   have h:=aBv (L:=sO m) (N:=m.2.2.2.1.length) (q:=fun k=>fF m (m.2.2.2.1.getD k zMt)) (fin:=fun b=>some (.inl (b,()))) (fun k rec hlt hh=> .inl ?_) (fun k rec _=>?_) (fun rec=>?_) 100 (fH m m.2.1&&true) (by omega)
   ·exact h
   ·rw[sO]
    have hg:=aT hlt
    have hpm:qS m m.2.2.2.1[k]=true:=by
     simp only[qS,aC]
     exact⟨hi,hac,hf.mts _ (dU hlt)⟩
    have hsm:vI m m.2.2.2.1[k]=some (fF m m.2.2.2.1[k],()):=by unfold vI;rw[hpm];rfl
    simp only[dlt hlt,dge,aH,aA,aR,getD_some hg,hsm,aJ,bB hlt (show m.2.2.2.1.length≤lenMax by simp only[lenMax];omega)]
   ·rw[sO]
    cases decide ((k:Int)<(m.2.2.2.1.length:Int)) <;> rfl
   ·rw[sO]
    simp only[bH,aB]
 rw[k2]
 simp only[aJ]
 have hsB:kJ m=(fH m m.2.1&&kX m&&m.2.2.2.1.all (fF m)&&m.2.2.2.2.1.all (rE m)):=by
  unfold kJ
  rw[Bool.and_assoc,Bool.and_assoc]
 rw[hsB]
 cases hb:fH m m.2.1&&kX m&&m.2.2.2.1.all (fF m) with
 | false=>
  rw[show (100:Nat)=99+1 from rfl,aY,vF]
  cases decide ((0:Int)<(m.2.2.2.2.1.length:Int)) <;> rfl
 | true=>
  rw[eK,←aAK (rE m) 0]
  have hmB:∀x∈m.2.2.2.1,fF m x=true:=by
   simp only[aC,bM] at hb
   exact hb.2
  have k4:=aBv (L:=vF m 100) (N:=m.2.2.2.2.1.length) (q:=fun k=>rE m (m.2.2.2.2.1.getD k 0)) (fin:=fun b=>bif b then some ((0:Int),()) else some ((3:Int),())) (fun k rec hlt hh=>?_) (fun k rec _=>?_) (fun rec=>?_) 100 true (by omega)
  ·refine Eq.trans k4 ?_
   cases (List.range m.2.2.2.2.1.length).all fun k=>rE m (m.2.2.2.2.1.getD k 0) <;> rfl
  ·have hg:=aT hlt
   obtain⟨f0,f11⟩:=hent.2 _ (dU hlt)
   rw[vF]
   simp only[dlt hlt,dge,aH,aA,aR,getD_some hg]
   by_cases hfl:m.2.2.2.2.1[k]<(m.2.2.2.1.length:Int)
   ·refine .inl ?_
    have hfl':¬m.2.2.2.2.1[k]≥(m.2.2.2.1.length:Int):=by omega
    have e1:m.2.2.2.1.getD (m.2.2.2.2.1[k]).toNat zMt=aD m m.2.2.2.2.1[k]:=rfl
    simp only[f0,hfl,hfl',aM,bQ,aA,aB,aH,e1]
    have hmm:=pH f0 hfl
    have hmb:=hmB _ hmm
    have hm4:=(lH (hf.mts _ hmm)).1.1
    simp only[fF,aC] at hmb
    obtain⟨hgp,_,hgr,_⟩:=hmb
    have hkg:∀t:Tp,gD t (m.1.length:Int)=true→qN t=(t.1==1):=fun t ht=>by
     unfold qN
     cases h1:t.1==1
     ·rfl
     ·unfold gD at ht
      rw[h1] at ht
      simpa using ht
    have hre:(qN (aD m m.2.2.2.2.1[k]).2.2.1 || (aD m m.2.2.2.2.1[k]).2.2.1.1==5)=((aD m m.2.2.2.2.1[k]).2.2.1.1==1 || (aD m m.2.2.2.2.1[k]).2.2.1.1==5):=by
     cases h5:(aD m m.2.2.2.2.1[k]).2.2.1.1==5
     ·have:gD (aD m m.2.2.2.2.1[k]).2.2.1 (m.1.length:Int)=true:=by
       rcases eQ _ _ ▸ hgr with h | h
       ·have:(aD m m.2.2.2.2.1[k]).2.2.1=(5,0,()):=by simpa using h
        rw[this] at h5;simp at h5
       ·exact h
      rw[hkg _ this]
     ·simp
    have hall:(aD m m.2.2.2.2.1[k]).1.all qN=(aD m m.2.2.2.2.1[k]).1.all fun t=>t.1==1:=by
     have hgp':∀t∈(aD m m.2.2.2.2.1[k]).1,gD t (m.1.length:Int)=true:=by simpa[fH] using hgp
     have key:∀l:List Tp,(∀t∈l,gD t (m.1.length:Int)=true)→l.all qN=l.all fun t=>t.1==1:=by
      intro l
      induction l with
      | nil=>intro _;rfl
      | cons t l ih=>
       intro hl
       rw[fM,fM,hkg t (hl t (by simp)),ih fun t' h=>hl t' (by simp[h])]
     exact key _ hgp'
    have hbool:(bif (aD m m.2.2.2.2.1[k]).2.2.1.1==1 then (some (.inl (true,())):Option ((Bool×Unit)⊕(Int×Unit))) else some (.inl ((aD m m.2.2.2.2.1[k]).2.2.1.1==5,())))=some (.inl ((aD m m.2.2.2.2.1[k]).2.2.1.1==1 || (aD m m.2.2.2.2.1[k]).2.2.1.1==5,())):=by
     cases (aD m m.2.2.2.2.1[k]).2.2.1.1==1 <;> rfl
    rw[hbool,←hre]
    simp only[aJ]
    have hin:=aBv (L:=yR m (true,(k:Int),()) rec) (N:=(aD m m.2.2.2.2.1[k]).1.length) (q:=fun j=>((aD m m.2.2.2.2.1[k]).1.getD j zTp).1==1) (fin:=fun b=>rec (b,((k+1:Nat):Int),())) (fun j rec2 hj hh=> .inl ?_) (fun j rec2 _=>?_) (fun rec2=>?_) 100 (qN (aD m m.2.2.2.2.1[k]).2.2.1 || (aD m m.2.2.2.2.1[k]).2.2.1.1==5) (by omega)
    ·refine Eq.trans hin ?_
     have hr:=aAK (fun t:Tp=>t.1==1) zTp (aD m m.2.2.2.2.1[k]).1
     have:(List.range (aD m m.2.2.2.2.1[k]).1.length).all (fun j=>((aD m m.2.2.2.2.1[k]).1.getD j zTp).1==1)=(aD m m.2.2.2.2.1[k]).1.all fun t=>t.1==1:=hr
     rw[this,←hall]
     unfold rE sin
     simp only[f0,hfl,aM,eK]
    ·rw[yR]
     simp only[aR,getD_some hg,f0,hfl,aM,aH,aA,e1,dlt hj,dge,bB hj (show (aD m m.2.2.2.2.1[k]).1.length≤lenMax by simp only[lenMax];omega)]
    ·rw[yR]
     simp only[aR,getD_some hg,f0,hfl,aM,aH,aA,aB,e1,bB hlt (show m.2.2.2.2.1.length≤lenMax by simp only[lenMax];omega)]
     cases decide ((j:Int)<((aD m m.2.2.2.2.1[k]).1.length:Int)) <;> rfl
    ·rw[yR]
     simp only[aR,getD_some hg,f0,hfl,aM,aH,aA,aB,e1,bH,bB hlt (show m.2.2.2.2.1.length≤lenMax by simp only[lenMax];omega)]
   ·refine .inr ⟨?_,?_⟩
    ·unfold rE sin
     simp[hfl]
    ·have hfl':m.2.2.2.2.1[k]≥(m.2.2.2.1.length:Int):=by omega
     simp only[hfl',aM,aA,aB]
  ·rw[vF]
   cases decide ((k:Int)<(m.2.2.2.2.1.length:Int)) <;> rfl
  ·rw[vF]
   simp only[bH,aB,bA,aA]
end Go.Pli

namespace Go.Pli
open Go Go.PM
theorem aCc {α:Type} {l:List α} (h:l.length<1000000):decide (([]:List α).length+l.length<rowMax)=true:=aI (by simp[rowMax];omega)
theorem aCe {l:List Tp} (h:l.length<1000000):tY l=some (l,()):=by unfold tY aBY;rw[aCc h];rfl
theorem aSW {l:List Int} (h:l.length<1000000):aCf l=some (l,()):=by unfold aCf aBZ;rw[aCc h];rfl
theorem aEO {l:List Int} (h:l.length<1000000):xF l=some (l,()):=by unfold xF aB0;rw[aCc h];rfl
theorem aST {l:List Ins} (h:l.length<1000000):aCd l=some (l,()):=by unfold aCd aBX;rw[aCc h];rfl
theorem aH9 {α β σ R:Type} {L:σ→(σ→Option R)→Option R} {xs:List α} {f:α→β} {st:Nat→List β→σ} {fin:Option R}
  (h1:∀(k:Nat) (x:α) (acc:List β) (rec),xs[k]? =some x→k<xs.length→acc.length=k→L (st k acc) rec=rec (st (k+1) (acc++[f x])))
  (h2:∀rec,L (st xs.length (xs.map f)) rec=fin):∀F:Nat,xs.length<F→aE L F (st 0 [])=fin:=by
 have key:∀(l pre:List α) (F:Nat),xs=pre++l→l.length<F→aE L F (st pre.length (pre.map f))=fin:=by
  intro l
  induction l with
  | nil=>
   intro pre F hx hF
   obtain⟨F,rfl⟩:∃n,F=n+1:=⟨F - 1,by simp at hF;omega⟩
   rw[bZ] at hx
   subst hx
   rw[aY,h2]
  | cons x l ih=>
   intro pre F hx hF
   obtain⟨F,rfl⟩:∃n,F=n+1:=⟨F - 1,by simp at hF;omega⟩
   have hk:xs[pre.length]? =some x:=by rw[hx];simp
   have hl:pre.length<xs.length:=by rw[hx];simp
   rw[aY,h1 pre.length x _ _ hk hl (by simp)]
   have:=ih (pre++[x]) F (by rw[hx];simp) (by simp only[aF] at hF;omega)
   simpa using this
 intro F hF
 exact key xs [] F rfl hF
end Go.Pli

namespace Go.Pli
open Go Go.PM
end Go.Pli

namespace Go.Pli
open Go Go.PM
end Go.Pli

