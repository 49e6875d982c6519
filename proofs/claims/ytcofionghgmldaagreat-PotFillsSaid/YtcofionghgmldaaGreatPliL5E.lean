/- Sane, by the reference: what the functions come to. -/
import Derived.Test.YtcofionghgmldaaGreatPliL5A
namespace Go.Pli
open Go Go.PM
theorem oO {l:List Cl} {x:Int}:∀(n:Nat) (c:Int),c.toNat<n→x∈cH l c→0≤x∧x≤c
 | 0,_,h,_=>by omega
 | n+1,c,h,hx=>by
  by_cases hc:c<0
  ·rw[fO hc] at hx;simp at hx
  ·rw[iA (by omega)] at hx
   have hlt:=lO (l:=l) (c:=c) (by omega)
   rcases bL.1 hx with rfl | hx
   ·omega
   ·by_cases hk:kup l c<0
    ·rw[fO hk] at hx;simp at hx
    ·have:=oO n (kup l c) (by omega) hx
     omega
theorem aF8 (l:List Cl) (c:Int) (b:Tp):vA l (3,c,()) b=cR l (3,c,()) b:=by
 unfold vA cR
 have h4:((3:Int)==4)=false:=rfl
 have h3:((3:Int)==3)=true:=rfl
 simp only[h4,h3,aA,aB,eJ]
 cases hb:b.1==3
 ·have hne:((((3:Int),c,()):Tp)==b)=false:=by
   rw[←sH]
   have:((3:Int)==b.1)=false:=by
    simp only[oQ,ne_eq] at hb⊢
    exact fun h=>hb h.symm
   simp[this]
  simp[hne]
 ·simp only[aA,eJ]
  unfold cG dH
  by_cases hc:c<(l.length:Int)
  ·simp only[hc,aN,aA,eJ]
   cases hm:(cH l c).contains b.2.1
   ·simp
   ·have hm':b.2.1∈cH l c:=by simpa using hm
    have:=oO (c.toNat+1) c (by omega) hm'
    have a1:0≤b.2.1:=this.1
    have a2:b.2.1<(l.length:Int):=by omega
    simp[a1,a2]
  ·simp[hc]
theorem aNO {l:List Cl} {c x:Int} (h:x∈cG l c):0≤x∧x<(l.length:Int):=by
 unfold cG at h
 by_cases hc:c<(l.length:Int)
 ·simp only[hc,aN,aA] at h
  have:=oO (c.toNat+1) c (by omega) h
  omega
 ·simp[hc] at h
theorem aGD {l:List Cl} {c:Int}:(cG l c).length≤l.length+1:=by
 unfold cG
 by_cases hc:c<(l.length:Int)
 ·simp only[hc,aN,aA]
  have:=uF l (c.toNat+1) c (by omega)
  omega
 ·simp[hc]
theorem aJi (m:Im) (hf:Fit m) (rs:List Int) (hr:∀x∈rs,0≤x∧x<(m.1.length:Int)):∀(k F:Nat) (out:List Tp),k≤rs.length→k<100→k<F→out.length+8*k<10000→
  aE (aA9 m (rs,())) F (out,(k:Int) - 1,())=some (out++(((rs.take k).reverse).map fun s=>(bZ m s).2.1).flatten,())
 | 0,F,out,_,_,hF,_=>by
  obtain⟨F,rfl⟩:∃n,F=n+1:=⟨F - 1,by omega⟩
  rw[aZ,aA9]
  simp
 | k+1,F,out,hk,hk100,hF,ho=>by
  obtain⟨F,rfl⟩:∃n,F=n+1:=⟨F - 1,by omega⟩
  have hlt:k<rs.length:=by omega
  have hg:=aT hlt
  have hmem:rs[k]∈rs:=dX hlt
  obtain⟨x0,x1⟩:=hr _ hmem
  have hcls:=(aAe (hf.cls _ (aB9 x0 x1))).2.1.1
  have hd:m.1.getD (rs[k]).toNat zCl=bZ m rs[k]:=rfl
  have e:(((k+1:Nat):Int) - 1)=(k:Int):=by omega
  rw[aZ,aA9,e]
  have hroom:out.length+(bZ m rs[k]).2.1.length<rowMax:=by simp only[rowMax];omega
  have hge:decide ((k:Int)≥0)=true:=aRM k
  simp only[hge,dlt hlt,aH,aA,aR,getD_some hg,x0,x1,hd,hroom,aN]
  rw[cY (by omega) (by omega),aJi m hf rs hr k F _ (by omega) (by omega) (by omega) (by simp only[aX];omega)]
  rw[List.take_succ_eq_append_getElem hlt]
  simp only[List.reverse_append,List.reverse_cons,List.reverse_nil,oS,sA,dO,gO,cK]
theorem aJk (m:Im):∀l:List Int,(((l.reverse).map fun s=>(bZ m s).2.1).flatten).length=bE (l.map fun s=>(bZ m s).2.1.length)
 | []=>rfl
 | x::l=>by
  have ih:=aJk m l
  simp only[List.reverse_cons,jZ,dO,List.map_nil,iL,gO,kB,cB,aX,bE]
  omega
theorem aOo (m:Im) (c:Int) (r) (h:jA m c=some r):∃k,aGX k m c=some r:=by
 unfold jA at h
 cases hi:cN m <;> simp only[hi,aA,aB] at h
 ·cases h
 injection h with h
 subst h
 have hf:=dD hi
 have h8:=hf.classes
 have hok:okL m.1=true:=by unfold okL;simp;omega
 have hlen:=aGD (l:=m.1) (c:=c)
 refine⟨100,?_⟩
 unfold aGX jO
 rw[hok]
 simp only[aA,aK]
 rw[cY (by omega) (by omega),aJi m hf _ (fun x hx=>aNO hx) (cG m.1 c).length 100 [] (by omega) (by omega) (by omega) (by simp;omega),iD]
 simp
theorem aGW {m:Im} {c:Int} (hi:cN m=true) (h1:c<(m.1.length:Int)):∃l:List Tp,jA m c=some (l,())∧l.length=jF m c:=by
 unfold jA
 rw[hi]
 refine⟨_,rfl,?_⟩
 rw[aJk]
 unfold jF cG
 simp[h1]
theorem aOp (m:Im) (c:Int) (r) (h:vL m c=some r):∃k,aGY k m c=some r:=by
 unfold vL at h
 cases hp:tB m c <;> simp only[hp,aA,aB] at h
 ·cases h
 injection h with h
 subst h
 obtain⟨hf,h0,h1,hh⟩:=aOC hp
 have hi:cN m=true:=by simp only[tB,aC] at hp;exact hp.1
 refine⟨100,?_⟩
 obtain⟨⟨c1,c2⟩,⟨c3,c4⟩,⟨c5,c6⟩⟩:=aAe (hf.cls _ (aB9 h0 h1))
 unfold aGY iT
 have hd:m.1.getD c.toNat zCl=bZ m c:=rfl
 have hd2:(bZ m c).1=eG m.1 c:=rfl
 rw[hd,hd2]
 simp only[h0,h1,aN,aH,aA,nV]
 have h8:=hf.classes
 have hok:okL m.1=true:=by unfold okL;simp;omega
 by_cases hs:eG m.1 c<c
 ·have hns:¬eG m.1 c≥c:=by omega
  simp only[hs,hns,aN,bU,aB,eJ]
  cases hg:fK m (bZ m c).2.1
  ·rfl
  ·obtain⟨fl,hfl,hfn⟩:=aGW hi h1
   rw[hfl]
   simp only[aY,aB,aK,eJ,hfn]
   by_cases h8:jF m c≤8
   ·have h8':¬(jF m c:Int)>8:=by omega
    simp only[h8,h8',aN,bU,aB,eJ]
    have hup:(bif decide (eG m.1 c≥0) then bif decide (0≤eG m.1 c)&&decide (eG m.1 c<(m.1.length:Int)) then (some (.inl ((m.1.getD (eG m.1 c).toNat zCl).2.2.1,())):Option ((List Int×Unit)⊕(Bool×Unit))) else none else some (.inl (([]:List Int),())))=some (.inl (eZ m c,())):=by
     unfold eZ
     by_cases hk:0≤eG m.1 c
     ·have a:eG m.1 c≥0:=hk
      have b:eG m.1 c<(m.1.length:Int):=by omega
      simp only[a,b,aN,aH,aA]
      rfl
     ·have a:¬eG m.1 c≥0:=hk
      simp only[a,bU,aB]
    rw[hup]
    simp only[aK]
    by_cases hu:(eZ m c).length≤(bZ m c).2.2.1.length
    ·have hu':¬((bZ m c).2.2.1.length:Int)<((eZ m c).length:Int):=by omega
     simp only[hu,hu',aN,bU,aB,eJ]
     have key:aE (aBa m c (eZ m c,())) 100 ((0:Int),())=bif jX (oW m c) 0 (bZ m c).2.2.1 then some (true,()) else some (false,()):=by
      refine aD0 (st:=fun k=>((k:Int),())) (p:=oW m c) (fun k f rec hk hlt=>?_) (fun rec=>?_) _ (by omega)
      ·rw[aBa]
       obtain⟨f0,f11⟩:=aMH hf h0 h1 hk
       simp only[hd,dlt hlt,dge,aH,aA,aR,getD_some hk,bG hlt (show (bZ m c).2.2.1.length≤lenMax by simp only[lenMax];omega)]
       unfold oW sin
       by_cases hfl:f<(m.2.2.2.1.length:Int)
       ·have hfl':¬f≥(m.2.2.2.1.length:Int):=by omega
        have e1:m.2.2.2.1.getD f.toNat zMt=aD m f:=rfl
        simp only[f0,hfl,hfl',aN,bU,aA,aB,aH,eJ,e1]
        unfold wR
        by_cases hpl:0<(aD m f).1.length
        ·have p1:((aD m f).1.length:Int)≠0:=by omega
         have p2:(((aD m f).1.length:Int)==0)=false:=by simpa using p1
         have p3:(0:Int)<((aD m f).1.length:Int):=by omega
         have hrs:mL m.1 ((3:Int),c,()) ((aD m f).1.getD 0 zTp)=some (cR m.1 ((3:Int),c,()) ((aD m f).1.getD 0 zTp),()):=by
          unfold mL;rw[hok,aF8];rfl
         simp only[p2,p3,hpl,aN,aA,aB,eJ,hrs,aK]
         cases hks:cR m.1 ((3:Int),c,()) ((aD m f).1.getD 0 zTp)
         ·rfl
         ·simp only[aY,aB,eJ]
          by_cases hku:k<(eZ m c).length
          ·obtain⟨⟨u1,u2⟩,u3⟩:=aK3 hh hs hku
           have e2:m.2.2.2.1.getD ((eZ m c).getD k 0).toNat zMt=aD m ((eZ m c).getD k 0):=rfl
           have q1:(1:Int)≤((aD m f).1.length:Int):=by omega
           have q2:(1:Int)≤((aD m ((eZ m c).getD k 0)).1.length:Int):=by omega
           have q3:∀n:Int,decide (n≤n)=true:=fun n=>aI (fD n)
           simp only[dlt hku,hku,aA,u1,u2,e2,aN,aH,aY,jJ,q1,q2,q3,aRJ,sH]
           unfold kK rT
           simp only[hpl,u3,aN,eJ]
           cases List.drop 1 (aD m f).1==List.drop 1 (aD m ((eZ m c).getD k 0)).1 <;> cases (aD m f).2.2.1==(aD m ((eZ m c).getD k 0)).2.2.1 <;> rfl
          ·have:¬(k:Int)<((eZ m c).length:Int):=by omega
           simp[this,hku]
        ·have p1:(aD m f).1.length=0:=by omega
         simp[p1]
       ·have hfl':f≥(m.2.2.2.1.length:Int):=by omega
        simp[hfl,hfl']
      ·rw[aBa]
       simp only[hd,bP,aB]
     rw[key]
     cases jX (oW m c) 0 (bZ m c).2.2.1 <;> rfl
    ·have hu':((bZ m c).2.2.1.length:Int)<((eZ m c).length:Int):=by omega
     simp[hu,hu']
   ·have h8':(jF m c:Int)>8:=by omega
    simp[h8,h8']
 ·have hns:eG m.1 c≥c:=by omega
  simp[hs,hns]
theorem aN9 (m:Im) (x:Mt) (i:Ins) (r) (h:vJ m x i=some r):aGQ m x i=some r:=by
 unfold vJ at h
 cases hp:qW m x&&fJ i <;> simp only[hp,aA,aB] at h
 ·cases h
 injection h with h
 subst h
 simp only[aC,qW] at hp
 obtain⟨⟨hi,ha,hx⟩,hg⟩:=hp
 obtain⟨⟨x1,_⟩,⟨x2,_⟩,_,⟨x4,_⟩,_⟩:=lK hx
 obtain⟨_,⟨a0,_⟩,⟨b0,_⟩,_,_⟩:=aEo hg
 unfold aGQ cM
 have hw:IntKind.i64.wrap ((x.1.length:Int)+(x.2.1.length:Int))=((x.1.length+x.2.1.length:Nat):Int):=by
  rw[cY (by omega) (by omega)];omega
 rw[hw]
 have sa:∀n:Int,sin i.2.1 n=decide (i.2.1<n):=fun n=>by unfold sin;rw[aI a0];rfl
 have sb:∀n:Int,sin i.2.2.1 n=decide (i.2.2.1<n):=fun n=>by unfold sin;rw[aI b0];rfl
 simp only[sa,sb]
 have h27:(bif decide (i.2.1<(m.1.length:Int)) then (jA m i.2.1).bind fun r9=>(some (decide (i.2.2.1<(r9.1.length:Int)),()):Option (Bool×Unit)) else some (false,()))=
   some (decide (i.2.1<(m.1.length:Int))&&decide (i.2.2.1<(jF m i.2.1:Int)),()):=by
  by_cases h1:i.2.1<(m.1.length:Int)
  ·obtain⟨fl,hfl,hfn⟩:=aGW hi h1
   simp[h1,hfl,hfn]
  ·simp[h1]
 have h32:(bif decide (i.2.1<(m.1.length:Int)) then (bif decide (0≤i.2.1)&&decide (i.2.1<m.1.length) then (some (decide (i.2.2.1<((m.1.getD i.2.1.toNat zCl).2.2.1.length:Int)),()):Option (Bool×Unit)) else none) else some (false,()))=
   some (decide (i.2.1<(m.1.length:Int))&&decide (i.2.2.1<((bZ m i.2.1).2.2.1.length:Int)),()):=by
  by_cases h1:i.2.1<(m.1.length:Int)
  ·simp only[h1,a0,aN,aH,aA,eJ]
   rfl
  ·simp[h1]
 simp only[h27,h32]
 cases i.1==1 <;> cases i.1==3 <;> cases i.1==4 <;> cases i.1==18 <;> cases i.1==19 <;> try rfl
 all_goals (cases i.1==22 <;> cases i.1==34 <;> cases i.1==27 <;> cases i.1==28 <;> cases i.1==29 <;> cases i.1==30 <;> cases i.1==31 <;> cases i.1==32 <;> rfl)
theorem aOb (m:Im) (x:Mt) (r) (h:vK m x=some r):∃k,aGR k m x=some r:=by
 unfold vK at h
 cases hp:qW m x <;> simp only[hp,aA,aB] at h
 ·cases h
 injection h with h
 subst h
 have hp':=hp
 simp only[aC,qW] at hp
 obtain⟨hi,ha,hx⟩:=hp
 obtain⟨⟨x1,_⟩,⟨x2,_⟩,_,⟨x4,x5⟩,_⟩:=lK hx
 refine⟨100,?_⟩
 have key:aE (aA2 m x) 100 ((0:Int),())=bif x.2.2.2.1.all (cM m x) then some (true,()) else some (false,()):=by
  refine mU (st:=fun k=>((k:Int),())) (p:=cM m x) (fun k i rec hk hlt=>?_) (fun rec=>?_) _ (by omega)
  ·rw[aA2]
   have hsi:vJ m x i=some (cM m x i,()):=by unfold vJ;rw[hp',x5 i (iW hk)];rfl
   simp only[dlt hlt,dge,aH,aA,aR,getD_some hk,bG hlt (show x.2.2.2.1.length≤lenMax by simp only[lenMax];omega),hsi,aK]
   cases cM m x i <;> rfl
  ·rw[aA2]
   simp only[bP,aB]
 unfold aGR fC
 rw[key,cY (by omega) (by omega),aD7]
 have hret:((x.2.2.1.1==5)&&((x.2.2.1.2.1==0)&&true))=(x.2.2.1==(5,0,())):=sH x.2.2.1 (5,0,())
 rw[hret]
 have hz:((x.2.2.2.1.length:Int)==0)=decide (x.2.2.2.1.length=0):=by
  by_cases hz:x.2.2.2.1.length=0
  ·simp[hz]
  ·have:¬((x.2.2.2.1.length:Int)=0):=by omega
   simp[hz]
 have h8:decide ((x.1.length:Int)+(x.2.1.length:Int)>8)= !decide (x.1.length+x.2.1.length≤8):=by
  by_cases h8:x.1.length+x.2.1.length≤8
  ·have:¬((x.1.length:Int)+(x.2.1.length:Int)>8):=by omega
   simp[h8,this]
  ·have:((x.1.length:Int)+(x.2.1.length:Int)>8):=by omega
   simp[h8,this]
 have hne:decide (x.2.2.2.1.length≠0)= !decide (x.2.2.2.1.length=0):=by by_cases h:x.2.2.2.1.length=0 <;> simp[h]
 rw[hz,h8,hne]
 unfold nV sT
 cases fK m x.1 <;> cases fK m x.2.1 <;> cases x.2.2.1==(5,0,()) <;> cases gI x.2.2.1 (m.1.length:Int) <;> cases decide (x.2.2.2.1.length=0) <;> try rfl
 all_goals (cases decide (x.2.2.2.2.2.2.1.length=x.2.2.2.1.length) <;> cases decide (x.1.length+x.2.1.length≤8) <;> cases x.2.2.2.1.all (cM m x) <;> rfl)
theorem aAT {α:Type} (p:α→Bool) (d:α):∀l:List α,(List.range l.length).all (fun k=>p (l.getD k d))=l.all p
 | []=>rfl
 | x::l=>by
  have ih:=aAT p d l
  rw[aF,List.range_succ_eq_map]
  simp only[fS,List.all_map,List.getD_cons_zero]
  rw[←ih]
  rfl
theorem aN4 (m:Im) (_:aN5 m):∃k,aGO k m=some (sV m,()):=by
 refine⟨100,?_⟩
 unfold aGO sV yG sW
 cases hi:cN m
 ·rfl
 have hf:=dD hi
 simp only[aY,aB,aA,nV]
 have h8:=hf.classes
 have h12:=hf.methods
 have hent:=hf.entries
 simp only[jU,fZ,aC,aP,bO] at hent
 have k1:aE (vI m) 100 (fK m m.2.1,((0:Int),()))=some (.inl (fK m m.2.1&&kY m,())):=by
  have h:=aBD (L:=vI m) (N:=m.1.length) (q:=fun k=>iT m (k:Int)) (fin:=fun b=>some (.inl (b,()))) (fun k rec hlt hh=> .inl ?_) (fun k rec _=>?_) (fun rec=>?_) 100 (fK m m.2.1) (by omega)
  ·exact h
  ·rw[vI]
   have hpc:tB m (k:Int)=true:=by
    simp only[tB,aC,aP]
    exact⟨hi,by omega,by omega,yN.2 fun j hj=>hh j (by omega)⟩
   have hsc:vL m (k:Int)=some (iT m (k:Int),()):=by unfold vL;rw[hpc];rfl
   simp only[dlt hlt,aA,hsc,aK,bG hlt (show m.1.length≤lenMax by simp only[lenMax];omega)]
  ·rw[vI]
   cases decide ((k:Int)<(m.1.length:Int)) <;> rfl
  ·rw[vI]
   simp only[bP,aB]
 rw[k1]
 simp only[aK]
 have k2:aE (sU m) 100 (fK m m.2.1&&kY m,((0:Int),()))=some (.inl (fK m m.2.1&&kY m&&m.2.2.2.1.all (fC m),())):=by
  cases hac:kY m with
  | false=>
   simp only[aAt,lA]
   rw[show (100:Nat)=99+1 from rfl,aZ,sU]
   cases decide ((0:Int)<(m.2.2.2.1.length:Int)) <;> rfl
  | true=>
   rw[←aAT (fC m) zMt]
   have h:=aBD (L:=sU m) (N:=m.2.2.2.1.length) (q:=fun k=>fC m (m.2.2.2.1.getD k zMt)) (fin:=fun b=>some (.inl (b,()))) (fun k rec hlt hh=> .inl ?_) (fun k rec _=>?_) (fun rec=>?_) 100 (fK m m.2.1&&true) (by omega)
   ·exact h
   ·rw[sU]
    have hg:=aT hlt
    have hpm:qW m m.2.2.2.1[k]=true:=by
     simp only[qW,aC]
     exact⟨hi,hac,hf.mts _ (dX hlt)⟩
    have hsm:vK m m.2.2.2.1[k]=some (fC m m.2.2.2.1[k],()):=by unfold vK;rw[hpm];rfl
    simp only[dlt hlt,dge,aH,aA,aR,getD_some hg,hsm,aK,bG hlt (show m.2.2.2.1.length≤lenMax by simp only[lenMax];omega)]
   ·rw[sU]
    cases decide ((k:Int)<(m.2.2.2.1.length:Int)) <;> rfl
   ·rw[sU]
    simp only[bP,aB]
 rw[k2]
 simp only[aK]
 have hsB:kJ m=(fK m m.2.1&&kY m&&m.2.2.2.1.all (fC m)&&m.2.2.2.2.1.all (rJ m)):=by
  unfold kJ
  rw[Bool.and_assoc,Bool.and_assoc]
 rw[hsB]
 cases hb:fK m m.2.1&&kY m&&m.2.2.2.1.all (fC m) with
 | false=>
  rw[show (100:Nat)=99+1 from rfl,aZ,vH]
  cases decide ((0:Int)<(m.2.2.2.2.1.length:Int)) <;> rfl
 | true=>
  rw[eJ,←aAT (rJ m) 0]
  have hmB:∀x∈m.2.2.2.1,fC m x=true:=by
   simp only[aC,bO] at hb
   exact hb.2
  have k4:=aBD (L:=vH m 100) (N:=m.2.2.2.2.1.length) (q:=fun k=>rJ m (m.2.2.2.2.1.getD k 0)) (fin:=fun b=>bif b then some ((0:Int),()) else some ((3:Int),())) (fun k rec hlt hh=>?_) (fun k rec _=>?_) (fun rec=>?_) 100 true (by omega)
  ·refine Eq.trans k4 ?_
   cases (List.range m.2.2.2.2.1.length).all fun k=>rJ m (m.2.2.2.2.1.getD k 0) <;> rfl
  ·have hg:=aT hlt
   obtain⟨f0,f11⟩:=hent.2 _ (dX hlt)
   rw[vH]
   simp only[dlt hlt,dge,aH,aA,aR,getD_some hg]
   by_cases hfl:m.2.2.2.2.1[k]<(m.2.2.2.1.length:Int)
   ·refine .inl ?_
    have hfl':¬m.2.2.2.2.1[k]≥(m.2.2.2.1.length:Int):=by omega
    have e1:m.2.2.2.1.getD (m.2.2.2.2.1[k]).toNat zMt=aD m m.2.2.2.2.1[k]:=rfl
    simp only[f0,hfl,hfl',aN,bU,aA,aB,aH,e1]
    have hmm:=pJ f0 hfl
    have hmb:=hmB _ hmm
    have hm4:=(lK (hf.mts _ hmm)).1.1
    simp only[fC,aC] at hmb
    obtain⟨hgp,_,hgr,_⟩:=hmb
    have hkg:∀t:Tp,gI t (m.1.length:Int)=true→qO t=(t.1==1):=fun t ht=>by
     unfold qO
     cases h1:t.1==1
     ·rfl
     ·unfold gI at ht
      rw[h1] at ht
      simpa using ht
    have hre:(qO (aD m m.2.2.2.2.1[k]).2.2.1 || (aD m m.2.2.2.2.1[k]).2.2.1.1==5)=((aD m m.2.2.2.2.1[k]).2.2.1.1==1 || (aD m m.2.2.2.2.1[k]).2.2.1.1==5):=by
     cases h5:(aD m m.2.2.2.2.1[k]).2.2.1.1==5
     ·have:gI (aD m m.2.2.2.2.1[k]).2.2.1 (m.1.length:Int)=true:=by
       rcases eT _ _ ▸ hgr with h | h
       ·have:(aD m m.2.2.2.2.1[k]).2.2.1=(5,0,()):=by simpa using h
        rw[this] at h5;simp at h5
       ·exact h
      rw[hkg _ this]
     ·simp
    have hall:(aD m m.2.2.2.2.1[k]).1.all qO=(aD m m.2.2.2.2.1[k]).1.all fun t=>t.1==1:=by
     have hgp':∀t∈(aD m m.2.2.2.2.1[k]).1,gI t (m.1.length:Int)=true:=by simpa[fK] using hgp
     have key:∀l:List Tp,(∀t∈l,gI t (m.1.length:Int)=true)→l.all qO=l.all fun t=>t.1==1:=by
      intro l
      induction l with
      | nil=>intro _;rfl
      | cons t l ih=>
       intro hl
       rw[fS,fS,hkg t (hl t (by simp)),ih fun t' h=>hl t' (by simp[h])]
     exact key _ hgp'
    have hbool:(bif (aD m m.2.2.2.2.1[k]).2.2.1.1==1 then (some (.inl (true,())):Option ((Bool×Unit)⊕(Int×Unit))) else some (.inl ((aD m m.2.2.2.2.1[k]).2.2.1.1==5,())))=some (.inl ((aD m m.2.2.2.2.1[k]).2.2.1.1==1 || (aD m m.2.2.2.2.1[k]).2.2.1.1==5,())):=by
     cases (aD m m.2.2.2.2.1[k]).2.2.1.1==1 <;> rfl
    rw[hbool,←hre]
    simp only[aK]
    have hin:=aBD (L:=yU m (true,(k:Int),()) rec) (N:=(aD m m.2.2.2.2.1[k]).1.length) (q:=fun j=>((aD m m.2.2.2.2.1[k]).1.getD j zTp).1==1) (fin:=fun b=>rec (b,((k+1:Nat):Int),())) (fun j rec2 hj hh=> .inl ?_) (fun j rec2 _=>?_) (fun rec2=>?_) 100 (qO (aD m m.2.2.2.2.1[k]).2.2.1 || (aD m m.2.2.2.2.1[k]).2.2.1.1==5) (by omega)
    ·refine Eq.trans hin ?_
     have hr:=aAT (fun t:Tp=>t.1==1) zTp (aD m m.2.2.2.2.1[k]).1
     have:(List.range (aD m m.2.2.2.2.1[k]).1.length).all (fun j=>((aD m m.2.2.2.2.1[k]).1.getD j zTp).1==1)=(aD m m.2.2.2.2.1[k]).1.all fun t=>t.1==1:=hr
     rw[this,←hall]
     unfold rJ sin
     simp only[f0,hfl,aN,eJ]
    ·rw[yU]
     simp only[aR,getD_some hg,f0,hfl,aN,aH,aA,e1,dlt hj,dge,bG hj (show (aD m m.2.2.2.2.1[k]).1.length≤lenMax by simp only[lenMax];omega)]
    ·rw[yU]
     simp only[aR,getD_some hg,f0,hfl,aN,aH,aA,aB,e1,bG hlt (show m.2.2.2.2.1.length≤lenMax by simp only[lenMax];omega)]
     cases decide ((j:Int)<((aD m m.2.2.2.2.1[k]).1.length:Int)) <;> rfl
    ·rw[yU]
     simp only[aR,getD_some hg,f0,hfl,aN,aH,aA,aB,e1,bP,bG hlt (show m.2.2.2.2.1.length≤lenMax by simp only[lenMax];omega)]
   ·refine .inr ⟨?_,?_⟩
    ·unfold rJ sin
     simp[hfl]
    ·have hfl':m.2.2.2.2.1[k]≥(m.2.2.2.1.length:Int):=by omega
     simp only[hfl',aN,aA,aB]
  ·rw[vH]
   cases decide ((k:Int)<(m.2.2.2.2.1.length:Int)) <;> rfl
  ·rw[vH]
   simp only[bP,aB,aY,aA]
end Go.Pli

namespace Go.Pli
open Go Go.PM
theorem aPO (l:List Mt):∃M,∀x∈l,x.2.2.2.1.length≤M:=by
 obtain⟨M,hM⟩:=aPI (l.map fun x=>x.2.2.2.1.map fun _=>zTp)
 exact⟨M,fun x hx=>by
  have:=hM (x.2.2.2.1.map fun _=>zTp) (fR.2 ⟨x,hx,rfl⟩)
  simpa using this⟩
theorem aN6 (a b:Im) (h:aN8 a b):∃k,aGP k a b=some (pC a b,()):=by
 obtain⟨M,hM⟩:=aPO a.2.2.2.1
 obtain⟨F,hF⟩:∃F,F=a.1.length+a.2.2.1.length+a.2.2.2.1.length+M+1:=⟨_,rfl⟩
 refine⟨F,?_⟩
 unfold aGP pC kK qR
 simp only[aAi]
 rw[←aQG]
 by_cases h1:a.1.length=b.1.length
 ·by_cases h4:a.2.2.2.1.length=b.2.2.2.1.length
  ·by_cases h3:a.2.2.1.length=b.2.2.1.length
   ·have k2:aE (aA0 a b F) F ((0:Int),())=bif a.2.2.2.1==b.2.2.2.1 then some (true,()) else some (false,()):=by
     refine wE (st:=fun k=>((k:Int),())) h4 (fun k x y rec hx hy hka hkb=>?_) (fun rec=>?_) _ (by omega)
     ·rw[aA0]
      have hxl:=(h.1.2.2.2.1.2 x (iW hx)).2.2.2.1.1
      have hxM:=hM x (iW hx)
      simp only[dlt hka,dlt hkb,dge,aH,aA,aR,getD_some hx,getD_some hy,aAi,kK,qR,sH]
      rw[←aPq]
      by_cases hcl:x.2.2.2.1.length=y.2.2.2.1.length
      ·have inner:aE (aA1 a b ((k:Int),()) rec) F ((0:Int),())=bif x.2.2.2.1==y.2.2.2.1 then rec (((k+1:Nat):Int),()) else some (false,()):=by
        refine wE (st:=fun j=>((j:Int),())) hcl (fun j u v rec2 hu hv hja hjb=>?_) (fun rec2=>?_) _ (by omega)
        ·rw[aA1]
         simp only[aR,getD_some hx,getD_some hy,dlt hja,dlt hjb,dge,aH,aA,getD_some hu,getD_some hv,bG hja hxl,aQs]
         cases u==v <;> rfl
        ·rw[aA1]
         simp only[aR,getD_some hx,bP,aB,bG hka h.1.2.2.2.1.1]
       rw[inner]
       have hbe:((x.2.2.2.1.length:Int)==(y.2.2.2.1.length:Int))=true:=by simp[hcl]
       simp only[hbe,aY,aB]
       cases x.1==y.1 <;> cases x.2.1==y.2.1 <;> cases x.2.2.1==y.2.2.1 <;> cases x.2.2.2.1==y.2.2.2.1 <;> cases x.2.2.2.2.1==y.2.2.2.2.1 <;> cases x.2.2.2.2.2.1==y.2.2.2.2.2.1 <;> cases x.2.2.2.2.2.2.1==y.2.2.2.2.2.2.1 <;> rfl
      ·rw[uN hcl]
       have hbe:((x.2.2.2.1.length:Int)==(y.2.2.2.1.length:Int))=false:=by simp;omega
       simp only[hbe,cF,aA]
       cases x.1==y.1 <;> cases x.2.1==y.2.1 <;> cases x.2.2.1==y.2.2.1 <;> rfl
     ·rw[aA0]
      simp only[bP,aB]
    have k3:aE (aAZ a b F) F ((0:Int),())=bif a.1==b.1 then (bif a.2.2.2.1==b.2.2.2.1 then some (true,()) else some (false,())) else some (false,()):=by
     refine wE (st:=fun k=>((k:Int),())) h1 (fun k x y rec hx hy hka hkb=>?_) (fun rec=>?_) _ (by omega)
     ·rw[aAZ]
      simp only[dlt hka,dlt hkb,dge,aH,aA,aR,getD_some hx,getD_some hy,aAi,kK,qR,bG hka h.1.1.1]
      rw[←aSP]
      cases x.1==y.1 <;> cases x.2.1==y.2.1 <;> cases x.2.2.1==y.2.2.1 <;> rfl
     ·rw[aAZ]
      simp only[bP,aB,k2]
    have k4:aE (aAY a b F) F ((0:Int),())=bif a.2.2.1==b.2.2.1 then (bif a.1==b.1 then (bif a.2.2.2.1==b.2.2.2.1 then some (true,()) else some (false,())) else some (false,())) else some (false,()):=by
     refine wE (st:=fun k=>((k:Int),())) h3 (fun k x y rec hx hy hka hkb=>?_) (fun rec=>?_) _ (by omega)
     ·rw[aAY]
      simp only[dlt hka,dlt hkb,dge,aH,aA,aR,getD_some hx,getD_some hy,aAi,bG hka h.1.2.2.1.1]
      cases x==y <;> rfl
     ·rw[aAY]
      simp only[bP,aB,k3]
    rw[k4]
    have e1:((a.1.length:Int)==(b.1.length:Int))=true:=by simp[h1]
    have e4:((a.2.2.2.1.length:Int)==(b.2.2.2.1.length:Int))=true:=by simp[h4]
    have e3:((a.2.2.1.length:Int)==(b.2.2.1.length:Int))=true:=by simp[h3]
    simp only[e1,e3,e4,aY,aB]
    cases a.1==b.1 <;> cases a.2.1==b.2.1 <;> cases a.2.2.1==b.2.2.1 <;> cases a.2.2.2.1==b.2.2.2.1 <;> cases a.2.2.2.2.1==b.2.2.2.2.1 <;> cases a.2.2.2.2.2.1==b.2.2.2.2.2.1 <;> cases a.2.2.2.2.2.2.1==b.2.2.2.2.2.2.1 <;> rfl
   ·have e3:((a.2.2.1.length:Int)==(b.2.2.1.length:Int))=false:=by simp;omega
    rw[uN h3]
    simp[e3]
  ·have e4:((a.2.2.2.1.length:Int)==(b.2.2.2.1.length:Int))=false:=by simp;omega
   rw[uN h4]
   simp[e4]
 ·have e1:((a.1.length:Int)==(b.1.length:Int))=false:=by simp;omega
  rw[uN h1]
  simp[e1]
theorem aCm {α:Type} {l:List α} (h:l.length<1000000):decide (([]:List α).length+l.length<rowMax)=true:=aI (by simp[rowMax];omega)
theorem aCo {l:List Tp} (h:l.length<1000000):uH l=some (l,()):=by unfold uH aB6;rw[aCm h];rfl
theorem aTi {l:List Int} (h:l.length<1000000):aCp l=some (l,()):=by unfold aCp aB7;rw[aCm h];rfl
theorem aEX {l:List Int} (h:l.length<1000000):xH l=some (l,()):=by unfold xH aB8;rw[aCm h];rfl
theorem aTf {l:List Ins} (h:l.length<1000000):aCn l=some (l,()):=by unfold aCn aB5;rw[aCm h];rfl
theorem aH7 {α β σ R:Type} {L:σ→(σ→Option R)→Option R} {xs:List α} {f:α→β} {st:Nat→List β→σ} {fin:Option R}
  (h1:∀(k:Nat) (x:α) (acc:List β) (rec),xs[k]? =some x→k<xs.length→acc.length=k→L (st k acc) rec=rec (st (k+1) (acc++[f x])))
  (h2:∀rec,L (st xs.length (xs.map f)) rec=fin):∀F:Nat,xs.length<F→aE L F (st 0 [])=fin:=by
 have key:∀(l pre:List α) (F:Nat),xs=pre++l→l.length<F→aE L F (st pre.length (pre.map f))=fin:=by
  intro l
  induction l with
  | nil=>
   intro pre F hx hF
   obtain⟨F,rfl⟩:∃n,F=n+1:=⟨F - 1,by simp at hF;omega⟩
   rw[cB] at hx
   subst hx
   rw[aZ,h2]
  | cons x l ih=>
   intro pre F hx hF
   obtain⟨F,rfl⟩:∃n,F=n+1:=⟨F - 1,by simp at hF;omega⟩
   have hk:xs[pre.length]? =some x:=by rw[hx];simp
   have hl:pre.length<xs.length:=by rw[hx];simp
   rw[aZ,h1 pre.length x _ _ hk hl (by simp)]
   have:=ih (pre++[x]) F (by rw[hx];simp) (by simp only[aF] at hF;omega)
   simpa using this
 intro F hF
 exact key xs [] F rfl hF
end Go.Pli

namespace Go.Pli
open Go Go.PM
end Go.Pli

namespace Go.Pli
open Go Go.PM
end Go.Pli

