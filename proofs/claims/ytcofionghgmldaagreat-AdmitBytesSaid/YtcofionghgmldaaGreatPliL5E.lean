/- Sane, by the reference: what the functions come to. -/
import Derived.Test.YtcofionghgmldaaGreatPliL5A
namespace Go.Pli
open Go Go.PM
theorem qV {l:List Cl} {x:Int}:∀(n:Nat) (c:Int),c.toNat<n→x∈cI l c→0≤x∧x≤c
 | 0,_,h,_=>by omega
 | n+1,c,h,hx=>by
  by_cases hc:c<0
  ·rw[fG hc] at hx;simp at hx
  ·rw[gM (by omega)] at hx;have hlt:=mK (l:=l) (c:=c) (by omega);rcases cB.1 hx with rfl | hx
   ·omega
   ·by_cases hk:kup l c<0
    ·rw[fG hk] at hx;simp at hx
    ·have:=qV n (kup l c) (by omega) hx;omega
theorem aJS (l:List Cl) (c:Int) (b:Tp):yJ l (3,c,()) b=cN l (3,c,()) b:=by
 unfold yJ cN;have h4:((3:Int)==4)=false:=rfl;have h3:((3:Int)==3)=true:=rfl;simp only[h4,h3,aA,aB,cZ];cases hb:b.1==3
 ·have hne:((((3:Int),c,()):Tp)==b)=false:=by
   rw[←rH];have:((3:Int)==b.1)=false:=by
    simp only[sS,ne_eq] at hb⊢;exact fun h=>hb h.symm
   simp[this]
  simp[hne]
 ·simp only[aA,cZ];unfold cP dL;by_cases hc:c<(l.length:Int)
  ·simp only[hc,aK,aA,cZ];cases hm:(cI l c).contains b.2.1
   ·simp
   ·have hm':b.2.1∈cI l c:=by simpa using hm
    have:=qV (c.toNat+1) c (by omega) hm';have a1:0≤b.2.1:=this.1;have a2:b.2.1<(l.length:Int):=by omega
    simp[a1,a2]
  ·simp[hc]
theorem aSK {l:List Cl} {c x:Int} (h:x∈cP l c):0≤x∧x<(l.length:Int):=by
 unfold cP at h;by_cases hc:c<(l.length:Int)
 ·simp only[hc,aK,aA] at h;have:=qV (c.toNat+1) c (by omega) h;omega
 ·simp[hc] at h
theorem aKq {l:List Cl} {c:Int}:(cP l c).length≤l.length+1:=by
 unfold cP;by_cases hc:c<(l.length:Int)
 ·simp only[hc,aK,aA];have:=xF l (c.toNat+1) c (by omega);omega
 ·simp[hc]
theorem aNy (m:Im) (hf:Fit m) (rs:List Int) (hr:∀x∈rs,0≤x∧x<(m.1.length:Int)):∀(k F:Nat) (out:List Tp),k≤rs.length→k<100→k<F→out.length+8*k<10000→
  aD (aDm m (rs,())) F (out,(k:Int) - 1,())=some (out++(((rs.take k).reverse).map fun s=>(bF m s).2.1).flatten,())
 | 0,F,out,_,_,hF,_=>by
  obtain⟨F,rfl⟩:∃n,F=n+1:=⟨F - 1,by omega⟩;rw[aZ,aDm];simp
 | k+1,F,out,hk,hk100,hF,ho=>by
  obtain⟨F,rfl⟩:∃n,F=n+1:=⟨F - 1,by omega⟩;have hlt:k<rs.length:=by omega
  have hg:=aX hlt;have hmem:rs[k]∈rs:=dT hlt;obtain⟨x0,x1⟩:=hr _ hmem;have hcls:=(pG (hf.cls _ (xE x0 x1))).2.1.1;have hd:m.1.getD (rs[k]).toNat zCl=bF m rs[k]:=rfl;have e:(((k+1:Nat):Int) - 1)=(k:Int):=by omega
  rw[aZ,aDm,e];have hroom:out.length+(bF m rs[k]).2.1.length<rowMax:=by simp only[rowMax];omega
  have hge:decide ((k:Int)≥0)=true:=aYw k;simp only[hge,dlt hlt,aG,aA,aL,getD_some hg,x0,x1,hd,hroom,aK];rw[bV (by omega) (by omega),aNy m hf rs hr k F _ (by omega) (by omega) (by omega) (by simp only[aS];omega)];rw[List.take_succ_eq_append_getElem hlt];simp only[List.reverse_append,List.reverse_cons,List.reverse_nil,oC,lV,dM,gO,bG]
theorem aNA (m:Im):∀l:List Int,(((l.reverse).map fun s=>(bF m s).2.1).flatten).length=bK (l.map fun s=>(bF m s).2.1.length)
 | []=>rfl
 | x::l=>by
  have ih:=aNA m l;simp only[List.reverse_cons,pJ,dM,List.map_nil,hJ,gO,lT,bZ,aS,bK];omega
theorem aTA (m:Im) (c:Int) (r) (h:kO m c=some r):∃k,aKV k m c=some r:=by
 unfold kO at h;cases hi:bI m <;> simp only[hi,aA,aB] at h
 ·cases h
 injection h with h
 subst h;have hf:=cH hi;have h8:=hf.classes;have hok:okL m.1=true:=by unfold okL;simp;omega
 have hlen:=aKq (l:=m.1) (c:=c);refine⟨100,?_⟩;unfold aKV lF;rw[hok];simp only[aA,aF];rw[bV (by omega) (by omega),aNy m hf _ (fun x hx=>aSK hx) (cP m.1 c).length 100 [] (by omega) (by omega) (by omega) (by simp;omega),iD];simp
theorem aKU {m:Im} {c:Int} (hi:bI m=true) (h1:c<(m.1.length:Int)):∃l:List Tp,kO m c=some (l,())∧l.length=gZ m c:=by
 unfold kO;rw[hi];refine⟨_,rfl,?_⟩;rw[aNA];unfold gZ cP;simp[h1]
theorem aTE (m:Im) (c:Int) (r) (h:yZ m c=some r):∃k,aKW k m c=some r:=by
 unfold yZ at h;cases hp:jD m c <;> simp only[hp,aA,aB] at h
 ·cases h
 injection h with h
 subst h;obtain⟨hf,h0,h1,hh⟩:=aGc hp;have hi:bI m=true:=by simp only[jD,aC] at hp;exact hp.1
 refine⟨100,?_⟩;obtain⟨⟨c1,c2⟩,⟨c3,c4⟩,⟨c5,c6⟩⟩:=pG (hf.cls _ (xE h0 h1));unfold aKW eN;have hd:m.1.getD c.toNat zCl=bF m c:=rfl;have hd2:(bF m c).1=bX m.1 c:=rfl;rw[hd,hd2];simp only[h0,h1,aK,aG,aA,pZ];have h8:=hf.classes;have hok:okL m.1=true:=by unfold okL;simp;omega
 by_cases hs:bX m.1 c<c
 ·have hns:¬bX m.1 c≥c:=by omega
  simp only[hs,hns,aK,bB,aB,cZ];cases hg:eC m (bF m c).2.1
  ·rfl
  ·obtain⟨fl,hfl,hfn⟩:=aKU hi h1;rw[hfl];simp only[aV,aB,aF,cZ,hfn];by_cases h8:gZ m c≤8
   ·have h8':¬(gZ m c:Int)>8:=by omega
    simp only[h8,h8',aK,bB,aB,cZ];have hup:(bif decide (bX m.1 c≥0) then bif decide (0≤bX m.1 c)&&decide (bX m.1 c<(m.1.length:Int)) then (some (.inl ((m.1.getD (bX m.1 c).toNat zCl).2.2.1,())):Option ((List Int×Unit)⊕(Bool×Unit))) else none else some (.inl (([]:List Int),())))=some (.inl (dU m c,())):=by
     unfold dU;by_cases hk:0≤bX m.1 c
     ·have a:bX m.1 c≥0:=hk;have b:bX m.1 c<(m.1.length:Int):=by omega
      simp only[a,b,aK,aG,aA];rfl
     ·have a:¬bX m.1 c≥0:=hk;simp only[a,bB,aB]
    rw[hup];simp only[aF];by_cases hu:(dU m c).length≤(bF m c).2.2.1.length
    ·have hu':¬((bF m c).2.2.1.length:Int)<((dU m c).length:Int):=by omega
     simp only[hu,hu',aK,bB,aB,cZ];have key:aD (aDo m c (dU m c,())) 100 ((0:Int),())=bif iW (pR m c) 0 (bF m c).2.2.1 then some (true,()) else some (false,()):=by
      refine zU (st:=fun k=>((k:Int),())) (p:=pR m c) (fun k f rec hk hlt=>?_) (fun rec=>?_) _ (by omega)
      ·rw[aDo];obtain⟨f0,f11⟩:=aJo hf h0 h1 hk;simp only[hd,dlt hlt,dge,aG,aA,aL,getD_some hk,aQ hlt (show (bF m c).2.2.1.length≤lenMax by simp only[lenMax];omega)];unfold pR sin;by_cases hfl:f<(m.2.2.2.1.length:Int)
       ·have hfl':¬f≥(m.2.2.2.1.length:Int):=by omega
        have e1:m.2.2.2.1.getD f.toNat zMt=aE m f:=rfl;simp only[f0,hfl,hfl',aK,bB,aA,aB,aG,cZ,e1];unfold wT;by_cases hpl:0<(aE m f).1.length
        ·have p1:((aE m f).1.length:Int)≠0:=by omega
         have p2:(((aE m f).1.length:Int)==0)=false:=by simpa using p1
         have p3:(0:Int)<((aE m f).1.length:Int):=by omega
         have hrs:oL m.1 ((3:Int),c,()) ((aE m f).1.getD 0 zTp)=some (cN m.1 ((3:Int),c,()) ((aE m f).1.getD 0 zTp),()):=by
          unfold oL;rw[hok,aJS];rfl
         simp only[p2,p3,hpl,aK,aA,aB,cZ,hrs,aF];cases hks:cN m.1 ((3:Int),c,()) ((aE m f).1.getD 0 zTp)
         ·rfl
         ·simp only[aV,aB,cZ];by_cases hku:k<(dU m c).length
          ·obtain⟨⟨u1,u2⟩,u3⟩:=aIA hh hs hku;have e2:m.2.2.2.1.getD ((dU m c).getD k 0).toNat zMt=aE m ((dU m c).getD k 0):=rfl;have q1:(1:Int)≤((aE m f).1.length:Int):=by omega
           have q2:(1:Int)≤((aE m ((dU m c).getD k 0)).1.length:Int):=by omega
           have q3:∀n:Int,decide (n≤n)=true:=fun n=>aH (fB n);simp only[dlt hku,hku,aA,u1,u2,e2,aK,aG,aV,iR,q1,q2,q3,aHO,rH];unfold kN aCi;simp only[hpl,u3,aK,cZ];cases List.drop 1 (aE m f).1==List.drop 1 (aE m ((dU m c).getD k 0)).1 <;> cases (aE m f).2.2.1==(aE m ((dU m c).getD k 0)).2.2.1 <;> rfl
          ·have:¬(k:Int)<((dU m c).length:Int):=by omega
           simp[this,hku]
        ·have p1:(aE m f).1.length=0:=by omega
         simp[p1]
       ·have hfl':f≥(m.2.2.2.1.length:Int):=by omega
        simp[hfl,hfl']
      ·rw[aDo];simp only[hd,aU,aB]
     rw[key];cases iW (pR m c) 0 (bF m c).2.2.1 <;> rfl
    ·have hu':((bF m c).2.2.1.length:Int)<((dU m c).length:Int):=by omega
     simp[hu,hu']
   ·have h8':(gZ m c:Int)>8:=by omega
    simp[h8,h8']
 ·have hns:bX m.1 c≥c:=by omega
  simp[hs,hns]
theorem aTm (m:Im) (x:Mt) (i:Ins) (r) (h:yX m x i=some r):aKO m x i=some r:=by
 unfold yX at h;cases hp:jU m x&&dV i <;> simp only[hp,aA,aB] at h
 ·cases h
 injection h with h
 subst h;simp only[aC,jU] at hp;obtain⟨⟨hi,ha,hx⟩,hg⟩:=hp;obtain⟨⟨x1,_⟩,⟨x2,_⟩,_,⟨x4,_⟩,_⟩:=jW hx;obtain⟨_,⟨a0,_⟩,⟨b0,_⟩,_,_⟩:=aAj hg;unfold aKO cL;have hw:IntKind.i64.wrap ((x.1.length:Int)+(x.2.1.length:Int))=((x.1.length+x.2.1.length:Nat):Int):=by
  rw[bV (by omega) (by omega)];omega
 rw[hw];have sa:∀n:Int,sin i.2.1 n=decide (i.2.1<n):=fun n=>by unfold sin;rw[aH a0];rfl
 have sb:∀n:Int,sin i.2.2.1 n=decide (i.2.2.1<n):=fun n=>by unfold sin;rw[aH b0];rfl
 simp only[sa,sb];have h27:(bif decide (i.2.1<(m.1.length:Int)) then (kO m i.2.1).bind fun r9=>(some (decide (i.2.2.1<(r9.1.length:Int)),()):Option (Bool×Unit)) else some (false,()))=
   some (decide (i.2.1<(m.1.length:Int))&&decide (i.2.2.1<(gZ m i.2.1:Int)),()):=by
  by_cases h1:i.2.1<(m.1.length:Int)
  ·obtain⟨fl,hfl,hfn⟩:=aKU hi h1;simp[h1,hfl,hfn]
  ·simp[h1]
 have h32:(bif decide (i.2.1<(m.1.length:Int)) then (bif decide (0≤i.2.1)&&decide (i.2.1<m.1.length) then (some (decide (i.2.2.1<((m.1.getD i.2.1.toNat zCl).2.2.1.length:Int)),()):Option (Bool×Unit)) else none) else some (false,()))=
   some (decide (i.2.1<(m.1.length:Int))&&decide (i.2.2.1<((bF m i.2.1).2.2.1.length:Int)),()):=by
  by_cases h1:i.2.1<(m.1.length:Int)
  ·simp only[h1,a0,aK,aG,aA,cZ];rfl
  ·simp[h1]
 simp only[h27,h32];cases i.1==1 <;> cases i.1==3 <;> cases i.1==4 <;> cases i.1==18 <;> cases i.1==19 <;> try rfl
 all_goals (cases i.1==22 <;> cases i.1==34 <;> cases i.1==27 <;> cases i.1==28 <;> cases i.1==29 <;> cases i.1==30 <;> cases i.1==31 <;> cases i.1==32 <;> rfl)
theorem aTo (m:Im) (x:Mt) (r) (h:yY m x=some r):∃k,aKP k m x=some r:=by
 unfold yY at h;cases hp:jU m x <;> simp only[hp,aA,aB] at h
 ·cases h
 injection h with h
 subst h;have hp':=hp;simp only[aC,jU] at hp;obtain⟨hi,ha,hx⟩:=hp;obtain⟨⟨x1,_⟩,⟨x2,_⟩,_,⟨x4,x5⟩,_⟩:=jW hx;refine⟨100,?_⟩;have key:aD (aDf m x) 100 ((0:Int),())=bif x.2.2.2.1.all (cL m x) then some (true,()) else some (false,()):=by
  refine gV (st:=fun k=>((k:Int),())) (p:=cL m x) (fun k i rec hk hlt=>?_) (fun rec=>?_) _ (by omega)
  ·rw[aDf];have hsi:yX m x i=some (cL m x i,()):=by unfold yX;rw[hp',x5 i (fR hk)];rfl
   simp only[dlt hlt,dge,aG,aA,aL,getD_some hk,aQ hlt (show x.2.2.2.1.length≤lenMax by simp only[lenMax];omega),hsi,aF];cases cL m x i <;> rfl
  ·rw[aDf];simp only[aU,aB]
 unfold aKP fD;rw[key,bV (by omega) (by omega),aDQ];have hret:((x.2.2.1.1==5)&&((x.2.2.1.2.1==0)&&true))=(x.2.2.1==(5,0,())):=rH x.2.2.1 (5,0,());rw[hret];have hz:((x.2.2.2.1.length:Int)==0)=decide (x.2.2.2.1.length=0):=by
  by_cases hz:x.2.2.2.1.length=0
  ·simp[hz]
  ·have:¬((x.2.2.2.1.length:Int)=0):=by omega
   simp[hz]
 have h8:decide ((x.1.length:Int)+(x.2.1.length:Int)>8)= !decide (x.1.length+x.2.1.length≤8):=by
  by_cases h8:x.1.length+x.2.1.length≤8
  ·have:¬((x.1.length:Int)+(x.2.1.length:Int)>8):=by omega
   simp[h8,this]
  ·have:((x.1.length:Int)+(x.2.1.length:Int)>8):=by omega
   simp[h8,this]
 have hne:decide (x.2.2.2.1.length≠0)= !decide (x.2.2.2.1.length=0):=by by_cases h:x.2.2.2.1.length=0 <;> simp[h]
 rw[hz,h8,hne];unfold pZ vV;cases eC m x.1 <;> cases eC m x.2.1 <;> cases x.2.2.1==(5,0,()) <;> cases fE x.2.2.1 (m.1.length:Int) <;> cases decide (x.2.2.2.1.length=0) <;> try rfl
 all_goals (cases decide (x.2.2.2.2.2.2.1.length=x.2.2.2.1.length) <;> cases decide (x.1.length+x.2.1.length≤8) <;> cases x.2.2.2.1.all (cL m x) <;> rfl)
theorem aCW {α:Type} (p:α→Bool) (d:α):∀l:List α,(List.range l.length).all (fun k=>p (l.getD k d))=l.all p
 | []=>rfl
 | x::l=>by
  have ih:=aCW p d l;rw[aJ,List.range_succ_eq_map];simp only[fA,List.all_map,List.getD_cons_zero];rw[←ih];rfl
theorem aTd (m:Im) (_:aTf m):∃k,aKI k m=some (tU m,()):=by
 refine⟨100,?_⟩;unfold aKI tU gA jT;cases hi:bI m
 ·rfl
 have hf:=cH hi;simp only[aV,aB,aA,pZ];have h8:=hf.classes;have h12:=hf.methods;have hent:=hf.entries;simp only[eG,cY,aC,aO,bT] at hent;have k1:aD (yW m) 100 (eC m m.2.1,((0:Int),()))=some (.inl (eC m m.2.1&&kG m,())):=by
  have h:=aDM (L:=yW m) (N:=m.1.length) (q:=fun k=>eN m (k:Int)) (fin:=fun b=>some (.inl (b,()))) (fun k rec hlt hh=> .inl ?_) (fun k rec _=>?_) (fun rec=>?_) 100 (eC m m.2.1) (by omega)
  ·exact h
  ·rw[yW];have hpc:jD m (k:Int)=true:=by
    simp only[jD,aC,aO];exact⟨hi,by omega,by omega,pV.2 fun j hj=>hh j (by omega)⟩
   have hsc:yZ m (k:Int)=some (eN m (k:Int),()):=by unfold yZ;rw[hpc];rfl
   simp only[dlt hlt,aA,hsc,aF,aQ hlt (show m.1.length≤lenMax by simp only[lenMax];omega)]
  ·rw[yW];cases decide ((k:Int)<(m.1.length:Int)) <;> rfl
  ·rw[yW];simp only[aU,aB]
 rw[k1];simp only[aF];have k2:aD (vY m) 100 (eC m m.2.1&&kG m,((0:Int),()))=some (.inl (eC m m.2.1&&kG m&&m.2.2.2.1.all (fD m),())):=by
  cases hac:kG m with
  | false=>
   simp only[vE,jP];rw[show (100:Nat)=99+1 from rfl,aZ,vY];cases decide ((0:Int)<(m.2.2.2.1.length:Int)) <;> rfl
  | true=>
   rw[←aCW (fD m) zMt];have h:=aDM (L:=vY m) (N:=m.2.2.2.1.length) (q:=fun k=>fD m (m.2.2.2.1.getD k zMt)) (fin:=fun b=>some (.inl (b,()))) (fun k rec hlt hh=> .inl ?_) (fun k rec _=>?_) (fun rec=>?_) 100 (eC m m.2.1&&true) (by omega)
   ·exact h
   ·rw[vY];have hg:=aX hlt;have hpm:jU m m.2.2.2.1[k]=true:=by
     simp only[jU,aC];exact⟨hi,hac,hf.mts _ (dT hlt)⟩
    have hsm:yY m m.2.2.2.1[k]=some (fD m m.2.2.2.1[k],()):=by unfold yY;rw[hpm];rfl
    simp only[dlt hlt,dge,aG,aA,aL,getD_some hg,hsm,aF,aQ hlt (show m.2.2.2.1.length≤lenMax by simp only[lenMax];omega)]
   ·rw[vY];cases decide ((k:Int)<(m.2.2.2.1.length:Int)) <;> rfl
   ·rw[vY];simp only[aU,aB]
 rw[k2];simp only[aF];have hsB:kL m=(eC m m.2.1&&kG m&&m.2.2.2.1.all (fD m)&&m.2.2.2.2.1.all (kA m)):=by
  unfold kL;rw[Bool.and_assoc,Bool.and_assoc]
 rw[hsB];cases hb:eC m m.2.1&&kG m&&m.2.2.2.1.all (fD m) with
 | false=>
  rw[show (100:Nat)=99+1 from rfl,aZ,yV];cases decide ((0:Int)<(m.2.2.2.2.1.length:Int)) <;> rfl
 | true=>
  rw[cZ,←aCW (kA m) 0];have hmB:∀x∈m.2.2.2.1,fD m x=true:=by
   simp only[aC,bT] at hb;exact hb.2
  have k4:=aDM (L:=yV m 100) (N:=m.2.2.2.2.1.length) (q:=fun k=>kA m (m.2.2.2.2.1.getD k 0)) (fin:=fun b=>bif b then some ((0:Int),()) else some ((3:Int),())) (fun k rec hlt hh=>?_) (fun k rec _=>?_) (fun rec=>?_) 100 true (by omega)
  ·refine Eq.trans k4 ?_;cases (List.range m.2.2.2.2.1.length).all fun k=>kA m (m.2.2.2.2.1.getD k 0) <;> rfl
  ·have hg:=aX hlt;obtain⟨f0,f11⟩:=hent.2 _ (dT hlt);rw[yV];simp only[dlt hlt,dge,aG,aA,aL,getD_some hg];by_cases hfl:m.2.2.2.2.1[k]<(m.2.2.2.1.length:Int)
   ·refine .inl ?_;have hfl':¬m.2.2.2.2.1[k]≥(m.2.2.2.1.length:Int):=by omega
    have e1:m.2.2.2.1.getD (m.2.2.2.2.1[k]).toNat zMt=aE m m.2.2.2.2.1[k]:=rfl;simp only[f0,hfl,hfl',aK,bB,aA,aB,aG,e1];have hmm:=qB f0 hfl;have hmb:=hmB _ hmm;have hm4:=(jW (hf.mts _ hmm)).1.1;simp only[fD,aC] at hmb;obtain⟨hgp,_,hgr,_⟩:=hmb;have hkg:∀t:Tp,fE t (m.1.length:Int)=true→sentry1 t=(t.1==1):=fun t ht=>by
     unfold sentry1;cases h1:t.1==1
     ·rfl
     ·unfold fE at ht;rw[h1] at ht;simpa using ht
    have hre:(sentry1 (aE m m.2.2.2.2.1[k]).2.2.1 || (aE m m.2.2.2.2.1[k]).2.2.1.1==5)=((aE m m.2.2.2.2.1[k]).2.2.1.1==1 || (aE m m.2.2.2.2.1[k]).2.2.1.1==5):=by
     cases h5:(aE m m.2.2.2.2.1[k]).2.2.1.1==5
     ·have:fE (aE m m.2.2.2.2.1[k]).2.2.1 (m.1.length:Int)=true:=by
       rcases fS _ _ ▸ hgr with h | h
       ·have:(aE m m.2.2.2.2.1[k]).2.2.1=(5,0,()):=by simpa using h
        rw[this] at h5;simp at h5
       ·exact h
      rw[hkg _ this]
     ·simp
    have hall:(aE m m.2.2.2.2.1[k]).1.all sentry1=(aE m m.2.2.2.2.1[k]).1.all fun t=>t.1==1:=by
     have hgp':∀t∈(aE m m.2.2.2.2.1[k]).1,fE t (m.1.length:Int)=true:=by simpa[eC] using hgp
     have key:∀l:List Tp,(∀t∈l,fE t (m.1.length:Int)=true)→l.all sentry1=l.all fun t=>t.1==1:=by
      intro l
      induction l with
      | nil=>intro _;rfl
      | cons t l ih=>
       intro hl;rw[fA,fA,hkg t (hl t (by simp)),ih fun t' h=>hl t' (by simp[h])]
     exact key _ hgp'
    have hbool:(bif (aE m m.2.2.2.2.1[k]).2.2.1.1==1 then (some (.inl (true,())):Option ((Bool×Unit)⊕(Int×Unit))) else some (.inl ((aE m m.2.2.2.2.1[k]).2.2.1.1==5,())))=some (.inl ((aE m m.2.2.2.2.1[k]).2.2.1.1==1 || (aE m m.2.2.2.2.1[k]).2.2.1.1==5,())):=by
     cases (aE m m.2.2.2.2.1[k]).2.2.1.1==1 <;> rfl
    rw[hbool,←hre];simp only[aF];have hin:=aDM (L:=aBq m (true,(k:Int),()) rec) (N:=(aE m m.2.2.2.2.1[k]).1.length) (q:=fun j=>((aE m m.2.2.2.2.1[k]).1.getD j zTp).1==1) (fin:=fun b=>rec (b,((k+1:Nat):Int),())) (fun j rec2 hj hh=> .inl ?_) (fun j rec2 _=>?_) (fun rec2=>?_) 100 (sentry1 (aE m m.2.2.2.2.1[k]).2.2.1 || (aE m m.2.2.2.2.1[k]).2.2.1.1==5) (by omega)
    ·refine Eq.trans hin ?_;have hr:=aCW (fun t:Tp=>t.1==1) zTp (aE m m.2.2.2.2.1[k]).1;have:(List.range (aE m m.2.2.2.2.1[k]).1.length).all (fun j=>((aE m m.2.2.2.2.1[k]).1.getD j zTp).1==1)=(aE m m.2.2.2.2.1[k]).1.all fun t=>t.1==1:=hr;rw[this,←hall];unfold kA sin;simp only[f0,hfl,aK,cZ]
    ·rw[aBq];simp only[aL,getD_some hg,f0,hfl,aK,aG,aA,e1,dlt hj,dge,aQ hj (show (aE m m.2.2.2.2.1[k]).1.length≤lenMax by simp only[lenMax];omega)]
    ·rw[aBq];simp only[aL,getD_some hg,f0,hfl,aK,aG,aA,aB,e1,aQ hlt (show m.2.2.2.2.1.length≤lenMax by simp only[lenMax];omega)];cases decide ((j:Int)<((aE m m.2.2.2.2.1[k]).1.length:Int)) <;> rfl
    ·rw[aBq];simp only[aL,getD_some hg,f0,hfl,aK,aG,aA,aB,e1,aU,aQ hlt (show m.2.2.2.2.1.length≤lenMax by simp only[lenMax];omega)]
   ·refine .inr ⟨?_,?_⟩
    ·unfold kA sin;simp[hfl]
    ·have hfl':m.2.2.2.2.1[k]≥(m.2.2.2.1.length:Int):=by omega
     simp only[hfl',aK,aA,aB]
  ·rw[yV];cases decide ((k:Int)<(m.2.2.2.2.1.length:Int)) <;> rfl
  ·rw[yV];simp only[aU,aB,aV,aA]
end Go.Pli

namespace Go.Pli
open Go Go.PM
theorem aU5 (l:List Mt):∃M,∀x∈l,x.2.2.2.1.length≤M:=by
 obtain⟨M,hM⟩:=aLY (l.map fun x=>x.2.2.2.1.map fun _=>zTp);exact⟨M,fun x hx=>by
  have:=hM (x.2.2.2.1.map fun _=>zTp) (gE.2 ⟨x,hx,rfl⟩);simpa using this⟩
theorem aTg (a b:Im) (h:aTi a b):∃k,aKJ k a b=some (pY a b,()):=by
 obtain⟨M,hM⟩:=aU5 a.2.2.2.1;obtain⟨F,hF⟩:∃F,F=a.1.length+a.2.2.1.length+a.2.2.2.1.length+M+1:=⟨_,rfl⟩;refine⟨F,?_⟩;unfold aKJ pY kN tS;simp only[aCb];rw[←aWF];by_cases h1:a.1.length=b.1.length
 ·by_cases h4:a.2.2.2.1.length=b.2.2.2.1.length
  ·by_cases h3:a.2.2.1.length=b.2.2.1.length
   ·have k2:aD (aDd a b F) F ((0:Int),())=bif a.2.2.2.1==b.2.2.2.1 then some (true,()) else some (false,()):=by
     refine zR (st:=fun k=>((k:Int),())) h4 (fun k x y rec hx hy hka hkb=>?_) (fun rec=>?_) _ (by omega)
     ·rw[aDd];have hxl:=(h.1.2.2.2.1.2 x (fR hx)).2.2.2.1.1;have hxM:=hM x (fR hx);simp only[dlt hka,dlt hkb,dge,aG,aA,aL,getD_some hx,getD_some hy,aCb,kN,tS,rH];rw[←aUI];by_cases hcl:x.2.2.2.1.length=y.2.2.2.1.length
      ·have inner:aD (aDe a b ((k:Int),()) rec) F ((0:Int),())=bif x.2.2.2.1==y.2.2.2.1 then rec (((k+1:Nat):Int),()) else some (false,()):=by
        refine zR (st:=fun j=>((j:Int),())) hcl (fun j u v rec2 hu hv hja hjb=>?_) (fun rec2=>?_) _ (by omega)
        ·rw[aDe];simp only[aL,getD_some hx,getD_some hy,dlt hja,dlt hjb,dge,aG,aA,getD_some hu,getD_some hv,aQ hja hxl,aV5];cases u==v <;> rfl
        ·rw[aDe];simp only[aL,getD_some hx,aU,aB,aQ hka h.1.2.2.2.1.1]
       rw[inner];have hbe:((x.2.2.2.1.length:Int)==(y.2.2.2.1.length:Int))=true:=by simp[hcl]
       simp only[hbe,aV,aB];cases x.1==y.1 <;> cases x.2.1==y.2.1 <;> cases x.2.2.1==y.2.2.1 <;> cases x.2.2.2.1==y.2.2.2.1 <;> cases x.2.2.2.2.1==y.2.2.2.2.1 <;> cases x.2.2.2.2.2.1==y.2.2.2.2.2.1 <;> cases x.2.2.2.2.2.2.1==y.2.2.2.2.2.2.1 <;> rfl
      ·rw[xS hcl];have hbe:((x.2.2.2.1.length:Int)==(y.2.2.2.1.length:Int))=false:=by simp;omega
       simp only[hbe,bU,aA];cases x.1==y.1 <;> cases x.2.1==y.2.1 <;> cases x.2.2.1==y.2.2.1 <;> rfl
     ·rw[aDd];simp only[aU,aB]
    have k3:aD (aDc a b F) F ((0:Int),())=bif a.1==b.1 then (bif a.2.2.2.1==b.2.2.2.1 then some (true,()) else some (false,())) else some (false,()):=by
     refine zR (st:=fun k=>((k:Int),())) h1 (fun k x y rec hx hy hka hkb=>?_) (fun rec=>?_) _ (by omega)
     ·rw[aDc];simp only[dlt hka,dlt hkb,dge,aG,aA,aL,getD_some hx,getD_some hy,aCb,kN,tS,aQ hka h.1.1.1];rw[←aZT];cases x.1==y.1 <;> cases x.2.1==y.2.1 <;> cases x.2.2.1==y.2.2.1 <;> rfl
     ·rw[aDc];simp only[aU,aB,k2]
    have k4:aD (aDb a b F) F ((0:Int),())=bif a.2.2.1==b.2.2.1 then (bif a.1==b.1 then (bif a.2.2.2.1==b.2.2.2.1 then some (true,()) else some (false,())) else some (false,())) else some (false,()):=by
     refine zR (st:=fun k=>((k:Int),())) h3 (fun k x y rec hx hy hka hkb=>?_) (fun rec=>?_) _ (by omega)
     ·rw[aDb];simp only[dlt hka,dlt hkb,dge,aG,aA,aL,getD_some hx,getD_some hy,aCb,aQ hka h.1.2.2.1.1];cases x==y <;> rfl
     ·rw[aDb];simp only[aU,aB,k3]
    rw[k4];have e1:((a.1.length:Int)==(b.1.length:Int))=true:=by simp[h1]
    have e4:((a.2.2.2.1.length:Int)==(b.2.2.2.1.length:Int))=true:=by simp[h4]
    have e3:((a.2.2.1.length:Int)==(b.2.2.1.length:Int))=true:=by simp[h3]
    simp only[e1,e3,e4,aV,aB];cases a.1==b.1 <;> cases a.2.1==b.2.1 <;> cases a.2.2.1==b.2.2.1 <;> cases a.2.2.2.1==b.2.2.2.1 <;> cases a.2.2.2.2.1==b.2.2.2.2.1 <;> cases a.2.2.2.2.2.1==b.2.2.2.2.2.1 <;> cases a.2.2.2.2.2.2.1==b.2.2.2.2.2.2.1 <;> rfl
   ·have e3:((a.2.2.1.length:Int)==(b.2.2.1.length:Int))=false:=by simp;omega
    rw[xS h3];simp[e3]
  ·have e4:((a.2.2.2.1.length:Int)==(b.2.2.2.1.length:Int))=false:=by simp;omega
   rw[xS h4];simp[e4]
 ·have e1:((a.1.length:Int)==(b.1.length:Int))=false:=by simp;omega
  rw[xS h1];simp[e1]
theorem aES {α:Type} {l:List α} (h:l.length<1000000):decide (([]:List α).length+l.length<rowMax)=true:=aH (by simp[rowMax];omega)
theorem aEU {l:List Tp} (h:l.length<1000000):xI l=some (l,()):=by unfold xI xC;rw[aES h];rfl
theorem bAt {l:List Int} (h:l.length<1000000):aEV l=some (l,()):=by unfold aEV aEC;rw[aES h];rfl
theorem aId {l:List Int} (h:l.length<1000000):aAE l=some (l,()):=by unfold aAE aED;rw[aES h];rfl
theorem bAq {l:List Ins} (h:l.length<1000000):aET l=some (l,()):=by unfold aET aEB;rw[aES h];rfl
theorem aL5 {α β σ R:Type} {L:σ→(σ→Option R)→Option R} {xs:List α} {f:α→β} {st:Nat→List β→σ} {fin:Option R}
  (h1:∀(k:Nat) (x:α) (acc:List β) (rec),xs[k]? =some x→k<xs.length→acc.length=k→L (st k acc) rec=rec (st (k+1) (acc++[f x])))
  (h2:∀rec,L (st xs.length (xs.map f)) rec=fin):∀F:Nat,xs.length<F→aD L F (st 0 [])=fin:=by
 have key:∀(l pre:List α) (F:Nat),xs=pre++l→l.length<F→aD L F (st pre.length (pre.map f))=fin:=by
  intro l
  induction l with
  | nil=>
   intro pre F hx hF;obtain⟨F,rfl⟩:∃n,F=n+1:=⟨F - 1,by simp at hF;omega⟩;rw[bZ] at hx;subst hx;rw[aZ,h2]
  | cons x l ih=>
   intro pre F hx hF;obtain⟨F,rfl⟩:∃n,F=n+1:=⟨F - 1,by simp at hF;omega⟩;have hk:xs[pre.length]? =some x:=by rw[hx];simp
   have hl:pre.length<xs.length:=by rw[hx];simp
   rw[aZ,h1 pre.length x _ _ hk hl (by simp)];have:=ih (pre++[x]) F (by rw[hx];simp) (by simp only[aJ] at hF;omega);simpa using this
 intro F hF;exact key xs [] F rfl hF
theorem aWX (m:Im) (r) (h:aBO m=some r):∃k,aMN k m=some r:=by
 unfold aBO at h;cases hi:bI m <;> simp only[hi,aA,aB] at h
 ·cases h
 injection h with h
 subst h;have hf:=cH hi;have h8:=hf.classes;have h12:=hf.methods;have h16:=hf.ints;have hst:=hf.statics;have hent:=hf.entries;simp only[dH,eG,aC,aO] at hst hent;refine⟨100,?_⟩;have k1:aD (aD7 m) 100 ((0:Int),(m.1,m.2.1,m.2.2.1,([]:List Mt),m.2.2.2.2.1,m.2.2.2.2.2),())=some (m,()):=by
  refine aL5 (xs:=m.2.2.2.1) (f:=id) (st:=fun k acc=>((k:Int),(m.1,m.2.1,m.2.2.1,acc,m.2.2.2.2.1,m.2.2.2.2.2),())) (fun k x acc rec hk hlt hacc=>?_) (fun rec=>?_) 100 (by omega)
  ·rw[aD7];obtain⟨⟨x1,_⟩,⟨x2,_⟩,_,⟨x4,_⟩,_,_,⟨x7,_⟩⟩:=jW (hf.mts x (fR hk));have hroom:∀y:Mt,decide (acc.length+[y].length<rowMax)=true:=fun y=>aH (by simp[rowMax];omega);simp only[dlt hlt,dge,aG,aA,aL,getD_some hk,aEU (show x.1.length<1000000 by omega),aEU (show x.2.1.length<1000000 by omega),bAq (show x.2.2.2.1.length<1000000 by omega),
    aId (show x.2.2.2.2.2.2.1.length<1000000 by omega),aF,hroom,aQ hlt (show m.2.2.2.1.length≤lenMax by simp only[lenMax];omega)]
   rfl
  ·rw[aD7];simp only[aU,aB,List.map_id];rfl
 have k2:aD (aD6 m 100) 100 ((0:Int),(([]:List Cl),m.2.1,m.2.2.1,([]:List Mt),m.2.2.2.2.1,m.2.2.2.2.2),())=some (m,()):=by
  refine aL5 (xs:=m.1) (f:=id) (st:=fun k acc=>((k:Int),(acc,m.2.1,m.2.2.1,([]:List Mt),m.2.2.2.2.1,m.2.2.2.2.2),())) (fun k x acc rec hk hlt hacc=>?_) (fun rec=>?_) 100 (by omega)
  ·rw[aD6];obtain⟨_,⟨c3,_⟩,⟨c5,_⟩⟩:=pG (hf.cls x (fR hk));have hroom:∀y:Cl,decide (acc.length+[y].length<rowMax)=true:=fun y=>aH (by simp[rowMax];omega);simp only[dlt hlt,dge,aG,aA,aL,getD_some hk,aEU (show x.2.1.length<1000000 by omega),aId (show x.2.2.1.length<1000000 by omega),aF,hroom,
    aQ hlt (show m.1.length≤lenMax by simp only[lenMax];omega)]
   rfl
  ·rw[aD6];simp only[aU,aB,List.map_id];exact k1
 unfold aMN;rw[aEU (by omega),bAt (by omega),aId (by omega)];exact k2
end Go.Pli

namespace Go.Pli
open Go Go.PM
theorem aNN {α:Type} (e:α→List Int) (x:α):∀l:List α,eD e (l++[x])=eD e l++e x
 | []=>by simp[eD]
 | y::l=>by simp[eD,aNN e x l]
theorem sM {α:Type} {e:α→List Int} {B:Nat}:∀{l:List α},(∀x∈l,(e x).length≤B)→(eD e l).length≤B*l.length
 | [],_=>by simp[eD]
 | x::l,h=>by
  have h1:=h x (by simp);have h2:=sM (l:=l) fun y hy=>h y (by simp[hy]);simp only[eD,aS,aJ,Nat.mul_add,Nat.mul_one];omega
theorem zS {α σ R:Type} {L:σ→(σ→Option R)→Option R} {xs:List α} {e:α→List Int} {B:Nat} {st:Nat→List Int→σ} {fin:Option R} (b0:List Int)
  (he:∀x∈xs,(e x).length≤B)
  (h1:∀(k:Nat) (x:α) (b:List Int) (rec),xs[k]? =some x→k<xs.length→b.length≤b0.length+B*xs.length→L (st k b) rec=rec (st (k+1) (b++e x)))
  (h2:∀rec,L (st xs.length (b0++eD e xs)) rec=fin):∀F:Nat,xs.length<F→aD L F (st 0 b0)=fin:=by
 have key:∀(l pre:List α) (F:Nat),xs=pre++l→l.length<F→aD L F (st pre.length (b0++eD e pre))=fin:=by
  intro l
  induction l with
  | nil=>
   intro pre F hx hF;obtain⟨F,rfl⟩:∃n,F=n+1:=⟨F - 1,by simp at hF;omega⟩;rw[bZ] at hx;subst hx;rw[aZ,h2]
  | cons x l ih=>
   intro pre F hx hF;obtain⟨F,rfl⟩:∃n,F=n+1:=⟨F - 1,by simp at hF;omega⟩;have hk:xs[pre.length]? =some x:=by rw[hx];simp
   have hl:pre.length<xs.length:=by rw[hx];simp
   have hp:=sM (e:=e) (B:=B) (l:=pre) fun y hy=>he y (by rw[hx];simp[hy]);have hm:=Nat.mul_le_mul_left B (show pre.length≤xs.length by omega);rw[aZ,h1 pre.length x _ _ hk hl (by rw[aS];omega)];have:=ih (pre++[x]) F (by rw[hx];simp) (by simp only[aJ] at hF;omega);rw[aNN,←bG,aS] at this;exact this
 intro F hF;have:=key xs [] F rfl hF;simpa[eD] using this
theorem aHI (i:Ins):kB i=gW i:=by
 unfold kB gW;by_cases h1:bD i.1<1
 ·have h2:bD i.1<2:=by omega
  simp[h1,h2]
 ·simp[h1]
theorem aBX (t:Tp):(gK t).length≤22:=by
 unfold gK;have l1:=iV t.1.toNat;have l2:=iV t.2.1.toNat;cases t.1==3 <;> simp <;> omega
theorem wY (l:List Tp):(dW l).length≤11+22*l.length:=by
 unfold dW;have l1:=iV l.length;have l2:=sM (e:=gK) (l:=l) fun x _=>aBX x;rw[aS];omega
theorem jK (n:Int):(bQ n).length≤11:=iV _
theorem aBY (l:List Int):(kV l).length≤11+11*l.length:=by
 unfold kV;have l1:=iV l.length;have l2:=sM (e:=bQ) (l:=l) fun x _=>jK x;rw[aS];omega
theorem aHH (i:Ins):(kB i).length≤33:=by rw[aHI];exact (aWS i).2
theorem aNO {x:Mt} (h:imethod x=true):(mT x).length≤3500:=by
 obtain⟨⟨x1,_⟩,⟨x2,_⟩,_,⟨x4,_⟩,_,_,⟨x7,_⟩⟩:=jW h;unfold mT;have a1:=wY x.1;have a2:=wY x.2.1;have a3:=aBX x.2.2.1;have a4:=iV x.2.2.2.1.length;have a5:=sM (e:=kB) (l:=x.2.2.2.1) fun x _=>aHH x;have a6:=jK x.2.2.2.2.1;have a7:=jK x.2.2.2.2.2.1;have a8:=aBY x.2.2.2.2.2.2.1;simp only[aS];omega
theorem aNS {c:Cl} (h:iclass c=true):(jL c).length≤300:=by
 obtain⟨_,⟨c3,_⟩,⟨c5,_⟩⟩:=pG h;unfold jL;have a1:=jK (c.1+1);have a2:=wY c.2.1;have a3:=aBY c.2.2.1;simp only[aS];omega
theorem aHG (n:Int):(mR n).length≤11:=iV _
theorem aIC {t:Tp} (h:ityp t=true):(0≤t.1∧t.1≤5)∧(0≤t.2.1∧t.2.1≤7)∧(t.1≠3→t.2.1=0):=by
 simp only[ityp,cY,aC,fS,aO,hC] at h;obtain⟨h1,h2⟩:=h;omega
theorem aFa {l:List Tp} {m:Int} (h:dH l m=true):(l.length:Int)≤m∧∀t∈l,ityp t=true:=by
 simpa[dH] using h
theorem aGq {l:List Int} {c m:Int} (h:eG l c m=true):(l.length:Int)≤c∧∀n∈l,0≤n∧n≤m:=by
 simpa[eG,cY] using h
theorem aVJ {l:List Tp} {m n:Int} (h:dH l m=true) (hmn:m≤n):dH l n=true:=by
 simp only[dH,aC,aO] at h⊢;exact⟨by omega,h.2⟩
theorem aMD {l:List Int} {c m c' m':Int} (h:eG l c m=true) (hc:c≤c') (hm:m≤m'):eG l c' m'=true:=by
 simp only[eG,cY,aC,aO,bT] at h⊢;exact⟨by omega,fun n hn=>⟨(h.2 n hn).1,by have:=(h.2 n hn).2;omega⟩⟩
theorem aYk (n:Int):mR n=enc (zg n):=rfl
theorem fT {n:Nat} (h:n<1000000):decide (n<rowMax)=true:=aH (by simp[rowMax];omega)
theorem aTj (t:Tp) (r) (h:tV t=some r):aKM t=some r:=by
 unfold tV at h;cases hp:ityp t <;> simp only[hp,aA,aB] at h
 ·cases h
 injection h with h
 subst h;obtain⟨⟨t1,t2⟩,⟨t3,t4⟩,_⟩:=aIC hp;have l1:=iV t.1.toNat;have l2:=iV t.2.1.toNat;have l3:=iV (3:Int).toNat;unfold aKM gK;rw[rP (by omega),rP (n:=t.2.1) (by omega),rP (n:=t.1) (by omega)];simp only[aF];rw[fT (by omega)];by_cases h3:t.1=3
 ·rw[h3];rfl
 ·have:(t.1==3)=false:=by simpa using h3
  rw[this];simp
theorem aKK {t:Tp} (h:ityp t=true):tV t=some (gK t,()):=by unfold tV;rw[h];rfl
theorem aDa {l:List Tp} (h:dH l 8=true):mG l=some (dW l,()):=by unfold mG;rw[h];rfl
theorem aFW {l:List Int} (h:eG l 64 4096=true):oN l=some (kV l,()):=by unfold oN;rw[h];rfl
theorem aTb (l:List Tp) (r) (h:mG l=some r):∃k,aKH k l=some r:=by
 unfold mG at h;cases hp:dH l 8 <;> simp only[hp,aA,aB] at h
 ·cases h
 injection h with h
 subst h;obtain⟨hl,ht⟩:=aFa hp;have l1:=iV l.length;refine⟨l.length+1,?_⟩;unfold aKH;rw[rP (by omega)];simp only[aF,aL];refine zS (xs:=l) (e:=gK) (B:=22) (st:=fun k b=>(b,(k:Int),())) (enc l.length) (fun x _=>aBX x) (fun k x b' rec hk hlt hbl=>?_) (fun rec=>?_) _ (fM _)
 ·rw[aFV];have lx:=aBX x;simp only[dlt hlt,dge,aG,aA,aL,getD_some hk,aQ hlt (show l.length≤lenMax by simp only[lenMax];omega),aKK (ht x (fR hk)),aF];rw[fT (by omega)];rfl
 ·rw[aFV];simp only[aU,aB,dW]
theorem aTk (l:List Int) (r) (h:oN l=some r):∃k,aKN k l=some r:=by
 unfold oN at h;cases hp:eG l 64 4096 <;> simp only[hp,aA,aB] at h
 ·cases h
 injection h with h
 subst h;obtain⟨hl,ht⟩:=aGq hp;have l1:=iV l.length;refine⟨l.length+1,?_⟩;unfold aKN;rw[rP (by omega)];simp only[aF,aL];refine zS (xs:=l) (e:=bQ) (B:=11) (st:=fun k b=>(b,(k:Int),())) (enc l.length) (fun x _=>jK x) (fun k x b' rec hk hlt hbl=>?_) (fun rec=>?_) _ (fM _)
 ·rw[aFX];have lx:=iV x.toNat;have hx:=ht x (fR hk);simp only[dlt hlt,dge,aG,aA,aL,getD_some hk,aQ hlt (show l.length≤lenMax by simp only[lenMax];omega)];rw[rP (by omega)];simp only[aF];rw[fT (by omega)];rfl
 ·rw[aFX];simp only[aU,aB,kV]
theorem nL {n:Int} (h:n<9223372036854775808):dN n=some (bQ n,()):=rP h
theorem aSb {n:Int} (h0: -2147483648≤n) (h1:n≤2147483647):yK n=some (mR n,()):=aSa h0 h1
theorem aTB (m:Im) (r) (h:gU m=some r):∃k,aDn k m=some r:=by
 unfold gU at h;cases hp:bI m&&lL m.2.2.1 <;> simp only[hp,aA,aB] at h
 ·cases h
 injection h with h
 subst h;simp only[aC] at hp;obtain⟨hi,h32⟩:=hp;have hf:=cH hi;have h8:=hf.classes;have h12:=hf.methods;have h16:=hf.ints;have hst:=hf.statics;have hent:=hf.entries;have hs1:=hf.stack;have hs2:=hf.heap;obtain⟨hst1,hst2⟩:=aFa hst;obtain⟨hen1,hen2⟩:=aGq hent;simp only[cY,aC,aO] at hs1 hs2;have hint:∀n∈m.2.2.1,-2147483648≤n∧n≤2147483647:=by simpa[lL] using h32
 have a0:=jK (m.1.length:Int);have a1:=sM (e:=jL) (l:=m.1) fun c hc=>aNS (hf.cls c hc);have a2:=wY m.2.1;have a3:=jK (m.2.2.1.length:Int);have a4:=sM (e:=mR) (l:=m.2.2.1) fun n _=>aHG n;have a5:=jK (m.2.2.2.1.length:Int);have a6:=sM (e:=mT) (l:=m.2.2.2.1) fun x hx=>aNO (hf.mts x hx);have a7:=aBY m.2.2.2.2.1;have a8:=jK m.2.2.2.2.2.1;have a9:=jK m.2.2.2.2.2.2.1;refine⟨100,?_⟩;have k2:aD (r5encodeL2 m 100) 100 (mark++bQ (m.1.length:Int)++eD jL m.1++dW m.2.1++bQ (m.2.2.1.length:Int)++eD mR m.2.2.1++bQ (m.2.2.2.1.length:Int),((0:Int),()))=some (eY m,()):=by
  refine zS (xs:=m.2.2.2.1) (e:=mT) (B:=3500) (st:=fun k b=>(b,(k:Int),())) (mark++bQ (m.1.length:Int)++eD jL m.1++dW m.2.1++bQ (m.2.2.1.length:Int)++eD mR m.2.2.1++bQ (m.2.2.2.1.length:Int)) (fun x hx=>aNO (hf.mts x hx)) (fun k x b' rec hk hlt hbl=>?_) (fun rec=>?_) _ (by omega)
  ·rw[r5encodeL2];have hm:=hf.mts x (fR hk);obtain⟨⟨x1,_⟩,⟨x2,_⟩,hret,⟨x4,hgood⟩,x5,x6,⟨x7,_⟩⟩:=jW hm;simp only[imethod,aC] at hm;obtain⟨hm1,hm2,_,_,_,_,_,hm7⟩:=hm;have b1:=wY x.1;have b2:=wY x.2.1;have b3:=aBX x.2.2.1;have b4:=jK (x.2.2.2.1.length:Int);have b5:=sM (e:=kB) (l:=x.2.2.2.1) fun x _=>aHH x;have b6:=jK x.2.2.2.2.1;have b7:=jK x.2.2.2.2.2.1;have b8:=aBY x.2.2.2.2.2.2.1;simp only[aS,mark,aJ,bJ] at hbl;simp only[dlt hlt,dge,aG,aA,aL,getD_some hk,aDa (aVJ hm1 (by omega:(4:Int)≤8)),aDa hm2,aKK hret,aF,nL (n:=(x.2.2.2.1.length:Int)) (by omega),
    fT (show b'.length+(dW x.1).length<1000000 by omega),fT (show (b'++dW x.1).length+(dW x.2.1).length<1000000 by simp only[aS];omega),
    fT (show (b'++dW x.1++dW x.2.1).length+(gK x.2.2.1).length<1000000 by simp only[aS];omega),fT (show (b'++dW x.1++dW x.2.1++gK x.2.2.1).length+(bQ (x.2.2.2.1.length:Int)).length<1000000 by simp only[aS];omega)]
   refine zS (xs:=x.2.2.2.1) (e:=kB) (B:=33) (st:=fun k b=>(b,(k:Int),())) (b'++dW x.1++dW x.2.1++gK x.2.2.1++bQ (x.2.2.2.1.length:Int)) (fun x _=>aHH x) (fun j i b2 rec2 hj hlj hbl2=>?_) (fun rec2=>?_) _ (by omega)
   ·rw[r5encodeL1];obtain⟨⟨i1,i2⟩,⟨i3,i4⟩,⟨i5,i6⟩,_⟩:=aAj (hgood i (fR hj));have c1:=jK i.1;have c2:=jK i.2.1;have c3:=jK i.2.2.1;simp only[aS] at hbl2;simp only[aL,getD_some hk,dlt hlj,dge,aG,aA,getD_some hj,nL (n:=i.1) (by omega),nL (n:=i.2.1) (by omega),nL (n:=i.2.2.1) (by omega),aF,
     fT (show b2.length+(bQ i.1).length<1000000 by omega),fT (show (b2++bQ i.1).length+(bQ i.2.1).length<1000000 by simp only[aS];omega),mF,
     aQ hlj (show x.2.2.2.1.length≤lenMax by simp only[lenMax];omega)]
    unfold kB;by_cases g1:bD i.1<1
    ·have g2:¬bD i.1>0:=by omega
     have g3:¬bD i.1>1:=by omega
     have g4:bD i.1<2:=by omega
     simp only[g1,g2,g3,g4,aK,bB,aA,aB,aF,bZ];rfl
    ·have g2:bD i.1>0:=by omega
     by_cases g4:bD i.1<2
     ·have g3:¬bD i.1>1:=by omega
      simp only[g1,g2,g3,g4,aK,bB,aA,aB,aF,bZ,bG];rfl
     ·have g3:bD i.1>1:=by omega
      simp only[g1,g2,g3,g4,aK,bB,aA,aB,aF,fT (show (b2++bQ i.1++bQ i.2.1).length+(bQ i.2.2.1).length<1000000 by simp only[aS];omega)];simp only[bG];rfl
   ·rw[r5encodeL1];simp only[aL,getD_some hk,aU,aB,aA,nL (n:=x.2.2.2.2.1) (by omega),nL (n:=x.2.2.2.2.2.1) (by omega),aFW hm7,aF,
     fT (show (b'++dW x.1++dW x.2.1++gK x.2.2.1++bQ (x.2.2.2.1.length:Int)++eD kB x.2.2.2.1).length+(bQ x.2.2.2.2.1).length<1000000 by simp only[aS];omega),
     fT (show (b'++dW x.1++dW x.2.1++gK x.2.2.1++bQ (x.2.2.2.1.length:Int)++eD kB x.2.2.2.1++bQ x.2.2.2.2.1).length+(bQ x.2.2.2.2.2.1).length<1000000 by simp only[aS];omega),
     fT (show (b'++dW x.1++dW x.2.1++gK x.2.2.1++bQ (x.2.2.2.1.length:Int)++eD kB x.2.2.2.1++bQ x.2.2.2.2.1++bQ x.2.2.2.2.2.1).length+(kV x.2.2.2.2.2.2.1).length<1000000 by simp only[aS];omega),
     aQ hlt (show m.2.2.2.1.length≤lenMax by simp only[lenMax];omega)]
    simp only[mT,bG];rfl
  ·rw[r5encodeL2];simp only[aU,aB,aFW (aMD hent (by omega:(12:Int)≤64) (by omega:(11:Int)≤4096)),aF,nL (n:=m.2.2.2.2.2.1) (by omega),nL (n:=m.2.2.2.2.2.2.1) (by omega)];rw[fT (by simp only[aS,mark,aJ,bJ];omega),fT (by simp only[aS,mark,aJ,bJ];omega),fT (by simp only[aS,mark,aJ,bJ];omega)];simp only[aA,bG];rfl
 have k3:aD (r5encodeL3 m 100) 100 (mark++bQ (m.1.length:Int)++eD jL m.1++dW m.2.1++bQ (m.2.2.1.length:Int),((0:Int),()))=some (eY m,()):=by
  refine zS (xs:=m.2.2.1) (e:=mR) (B:=11) (st:=fun k b=>(b,(k:Int),())) (mark++bQ (m.1.length:Int)++eD jL m.1++dW m.2.1++bQ (m.2.2.1.length:Int)) (fun x _=>aHG x) (fun k n b' rec hk hlt hbl=>?_) (fun rec=>?_) _ (by omega)
  ·rw[r5encodeL3];have hn:=hint n (fR hk);have ln:=aHG n;simp only[aS,mark,aJ,bJ] at hbl;simp only[dlt hlt,dge,aG,aA,aL,getD_some hk,aQ hlt (show m.2.2.1.length≤lenMax by simp only[lenMax];omega),aSb hn.1 hn.2,aF,fT (show b'.length+(mR n).length<1000000 by omega)]
  ·rw[r5encodeL3];simp only[aU,aB,nL (n:=(m.2.2.2.1.length:Int)) (by omega),aF];rw[fT (by simp only[aS,mark,aJ,bJ];omega)];exact k2
 have k4:aD (r5encodeL4 m 100) 100 (mark++bQ (m.1.length:Int),((0:Int),()))=some (eY m,()):=by
  refine zS (xs:=m.1) (e:=jL) (B:=300) (st:=fun k b=>(b,(k:Int),())) (mark++bQ (m.1.length:Int)) (fun c hc=>aNS (hf.cls c hc)) (fun k c b' rec hk hlt hbl=>?_) (fun rec=>?_) _ (by omega)
  ·rw[r5encodeL4];have hc:=hf.cls c (fR hk);obtain⟨⟨c1,c2⟩,⟨c3,c4⟩,⟨c5,c6⟩⟩:=pG hc;simp only[iclass,aC] at hc;have e0:=jK (c.1+1);have e1:=wY c.2.1;have e2:=aBY c.2.2.1;simp only[aS,mark,aJ,bJ] at hbl;simp only[dlt hlt,dge,aG,aA,aL,getD_some hk,aQ hlt (show m.1.length≤lenMax by simp only[lenMax];omega),bV (n:=c.1+1) (by omega) (by omega),nL (n:=c.1+1) (by omega),aDa hc.2.2.1,
    aFW (aMD hc.2.2.2 (by omega:(4:Int)≤64) (by omega:(11:Int)≤4096)),aF,fT (show b'.length+(bQ (c.1+1)).length<1000000 by omega),
    fT (show (b'++bQ (c.1+1)).length+(dW c.2.1).length<1000000 by simp only[aS];omega),fT (show (b'++bQ (c.1+1)++dW c.2.1).length+(kV c.2.2.1).length<1000000 by simp only[aS];omega)]
   simp only[jL,bG]
  ·rw[r5encodeL4];simp only[aU,aB,aDa hst,nL (n:=(m.2.2.1.length:Int)) (by omega),aF];rw[fT (by simp only[aS,mark,aJ,bJ];omega),fT (by simp only[aS,mark,aJ,bJ];omega)];exact k3
 unfold aDn;rw[nL (by omega)];simp only[aF];rw[fT (by simp only[aJ,bJ];omega)];exact k4
end Go.Pli

namespace Go.Pli
open Go Go.PM
theorem fV {α β:Type} {o:Option α} {f g:α→Option β} (h:∀a,o=some a→f a=g a):o.bind f=o.bind g:=by
 cases o with
 | none=>rfl
 | some a=>exact h a rfl
theorem aUz {r:Rd} {s} (h:next r=some s):0≤s.1:=by
 unfold next at h
 cases hb:bC (r.1.take 5) <;> simp only[hb,aA,aB] at h
 ·cases h
 ·split at h
  ·injection h with h;subst h;exact Int.natCast_nonneg _
  ·injection h with h;subst h;exact fB _
theorem wR {r:Rd} {n:Int} {s} (hn:n<9223372036854775808) (h:bS r n=some s):0≤s.1∧s.1≤max n 0:=by
 unfold bS at h;cases hr:r.2.1 <;> simp only[hr,aA,aB] at h
 ·cases hx:next r with
  | none=>rw[hx] at h;cases h
  | some q=>
   rw[hx] at h;simp only[aF] at h;have h0:=aUz hx;cases hq:q.2.1 <;> simp only[hq,aV,bU,aA,aB] at h
   ·injection h with h;subst h;exact⟨fB _,by omega⟩
   ·by_cases hneg:n<0
    ·simp only[hneg,aK,aA] at h;injection h with h;subst h;exact⟨fB _,by omega⟩
    ·simp only[hneg,bB,aB] at h;have hw:IntKind.u64.wrap n=n:=by rw[IntKind.wrap_u64];omega
     rw[hw] at h;by_cases hgt:q.1>n
     ·simp only[hgt,aK,aA] at h;injection h with h;subst h;exact⟨fB _,by omega⟩
     ·simp only[hgt,bB,aB] at h;injection h with h;subst h
      have hw2:IntKind.i64.wrap q.1=q.1:=bV (by omega) (by omega);simp only[hw2];omega
 ·injection h with h;subst h;exact⟨fB _,by omega⟩
theorem zT {α σ R:Type} {L:σ→(σ→Option R)→Option R} {f:Rd→Option (α×Rd×Unit)} {n:Nat} {st:Nat→List α→Rd→σ} {fin:List α→Rd→Option R}
  (h1:∀(k:Nat) (out:List α) (r:Rd) (rec),k<n→out.length=k→L (st k out r) rec=(f r).bind fun q=>rec (st (k+1) (out++[q.1]) q.2.1))
  (h2:∀(out:List α) (r:Rd) (rec),L (st n out r) rec=fin out r):∀(F:Nat) (r:Rd),n<F→aD L F (st 0 [] r)=(jC f n r).bind fun p=>fin p.1 p.2.1:=by
 have key:∀(d k F:Nat) (out:List α) (r:Rd),k+d=n→out.length=k→d<F→aD L F (st k out r)=(jC f d r).bind fun p=>fin (out++p.1) p.2.1:=by
  intro d
  induction d with
  | zero=>
   intro k F out r hk ho hF;obtain⟨F,rfl⟩:∃n,F=n+1:=⟨F - 1,by omega⟩;have:k=n:=by omega
   subst this;rw[aZ,h2];simp[jC]
  | succ d ih=>
   intro k F out r hk ho hF;obtain⟨F,rfl⟩:∃n,F=n+1:=⟨F - 1,by omega⟩;rw[aZ,h1 k out r _ (by omega) ho,jC,Option.bind_assoc];refine fV fun q _=>?_;rw[ih (k+1) F (out++[q.1]) q.2.1 (by omega) (by simp[ho]) (by omega),Option.bind_assoc];refine fV fun p _=>?_;simp
 intro F r hF;have:=key n 0 F [] r (by omega) rfl hF;simpa using this
theorem aXh (r:Rd) (s) (h:lO r=some s):aXi r=some s:=by
 rw[←h];rfl
theorem klt {k:Nat} {a:Int} (h:k<a.toNat):decide ((k:Int)<a)=true:=aH (by omega)
theorem zZ {a:Int} (h:0≤a):decide (((a.toNat:Nat):Int)<a)=false:=aT (by omega)
theorem yL {α:Type} {out:List α} {x:α} (h:out.length<100000):decide (out.length+[x].length<rowMax)=true:=aH (by simp[rowMax];omega)
theorem aXg (r:Rd) {m:Int} (hm:m≤1000):aHp 1001 r m=hZ r m:=by
 unfold aHp hZ kR;rw[aH hm];simp only[aA];refine fV fun a ha=>?_;obtain⟨a0,a1⟩:=wR (by omega) ha;have:=zT (L:=aEc a) (f:=lO) (n:=a.1.toNat) (st:=fun k out r=>(out,(k:Int),r,())) (fin:=fun out r=>some (out,r,())) (fun k out r rec hk ho=>?_) (fun out r rec=>?_) 1001 a.2.1 (by omega)
 ·refine Eq.trans this ?_;cases jC lO a.1.toNat a.2.1 <;> rfl
 ·rw[aEc];simp only[klt hk,aA];refine fV fun q _=>?_;rw[yL (by omega),aQ (n:=a.1.toNat) hk (by simp only[lenMax];omega)];rfl
 ·rw[aEc];simp only[zZ a0,aB,idL]
theorem aXf (r:Rd) (m:Int) (s) (h:hZ r m=some s):∃k,aHp k r m=some s:=by
 have hm:m≤1000:=by
  unfold hZ at h;by_cases hm:m≤1000
  ·exact hm
  ·rw[aT hm] at h;cases h
 exact⟨1001,by rw[aXg r hm];exact h⟩
theorem aXk (r:Rd) {c m:Int} (hc:c≤1000):aHr 1001 r c m=iJ r c m:=by
 unfold aHr iJ kR;rw[aH hc];simp only[aA];refine fV fun a ha=>?_;obtain⟨a0,a1⟩:=wR (by omega) ha;have:=zT (L:=aEd m a) (f:=fun r=>bS r m) (n:=a.1.toNat) (st:=fun k out r=>(out,(k:Int),r,())) (fin:=fun out r=>some (out,r,())) (fun k out r rec hk ho=>?_) (fun out r rec=>?_) 1001 a.2.1 (by omega)
 ·refine Eq.trans this ?_;cases jC (fun r=>bS r m) a.1.toNat a.2.1 <;> rfl
 ·rw[aEd];simp only[klt hk,aA];refine fV fun q _=>?_;rw[yL (by omega),aQ (n:=a.1.toNat) hk (by simp only[lenMax];omega)];rfl
 ·rw[aEd];simp only[zZ a0,aB,idL]
theorem aXj (r:Rd) (c m:Int) (s) (h:iJ r c m=some s):∃k,aHr k r c m=some s:=by
 have hm:c≤1000:=by
  unfold iJ at h;by_cases hm:c≤1000
  ·exact hm
  ·rw[aT hm] at h;cases h
 exact⟨1001,by rw[aXk r hm];exact h⟩
theorem aXn (r:Rd):aHs 100 r=lP r:=by
 unfold aHs lP kR;refine fV fun a _=>fV fun b _=>fV fun c _=>?_;rw[Option.bind_assoc];refine fV fun d hd=>?_;obtain⟨d0,d1⟩:=wR (by omega) hd;have:=zT (L:=aEe d) (f:=mN) (n:=d.1.toNat) (st:=fun k out r=>((k:Int),r,(a.1,b.1,c.1.1,c.1.2.1,out,0,0,[],()),()))
  (fin:=fun out r=>(bS r 8).bind fun e=>(bS e.2.1 4096).bind fun f=>(iJ f.2.1 64 4096).bind fun g=>some ((a.1,b.1,c.1,out,e.1,f.1,g.1,()),g.2.1,())) (fun k out r rec hk ho=>?_) (fun out r rec=>?_) 100 d.2.1 (by omega)
 ·exact this
 ·rw[aEe];simp only[klt hk,aA];refine fV fun q _=>?_;rw[yL (by omega),aQ (n:=d.1.toNat) hk (by simp only[lenMax];omega)];rfl
 ·rw[aEe];simp only[zZ d0,aB];rfl
theorem aXm (r:Rd) (s) (h:lP r=some s):∃k,aHs k r=some s:=⟨100,by rw[aXn];exact h⟩
def aAW (a:List Cl) (b:List Tp) (c:List Int) (d:List Mt) (r:Rd):Option (Im×Int×Unit):=
 (iJ r 12 11).bind fun e=>(bS e.2.1 4096).bind fun f=>(bS f.2.1 4096).bind fun g=>(aAp g.2.1).bind fun x=>
  bif !x.1 || !bI (a,b,c,d,e.1,f.1,g.1,()) then some (zIm,2,()) else some ((a,b,c,d,e.1,f.1,g.1,()),0,())
def aAU (a:List Cl) (b:List Tp) (c:List Int) (r:Rd):Option (Im×Int×Unit):=
 (bS r 12).bind fun n=>(jC lP n.1.toNat n.2.1).bind fun d=>aAW a b c d.1 d.2.1
def aCC (a:List Cl) (r:Rd):Option (Im×Int×Unit):=
 (hZ r 8).bind fun b=>(bS b.2.1 16).bind fun n=>(jC kQ n.1.toNat n.2.1).bind fun c=>aAU a b.1 c.1 c.2.1
theorem aWV (b:List Int):aHj 100 b=pA b:=by
 have hspec:pA b=bif decide ((b.length:Int)>8192) || (decide ((b.length:Int)<4) || !((strOfNums (b.take 4)).toList==(⟨#[112,108,105,109]⟩:ByteArray).toList)) then some (zIm,2,())
   else (bS (zK (b.drop 4)) 8).bind fun n=>(jC sF n.1.toNat n.2.1).bind fun a=>aCC a.1 a.2.1:=by
  unfold pA aAl kR aCC aAU aAW;simp only[Option.bind_assoc,aF]
 rw[hspec];unfold aHj;by_cases h1:(b.length:Int)>8192
 ·simp[h1]
 by_cases h2:(b.length:Int)<4
 ·simp[h1,h2]
 have h3:(4:Int)≤(b.length:Int):=by omega
 simp only[h1,h2,h3,aK,bB,aA,aB,aE0,iR,fB,aG,iD];cases hm:(strOfNums (b.take 4)).toList==(⟨#[112,108,105,109]⟩:ByteArray).toList
 ·rfl
 simp only[aV,aB];refine fV fun n hn=>?_;obtain⟨n0,n1⟩:=wR (by omega) hn;have k1:∀(a:List Cl) (b:List Tp) (c:List Int) (n:Int×Rd×Unit),0≤n.1→n.1≤12→aD (aBN n) 100 ((0:Int),n.2.1,(a,b,c,[],[],0,0,()),())=(jC lP n.1.toNat n.2.1).bind fun d=>aAW a b c d.1 d.2.1:=by
  intro a b c n n0 n1;refine zT (L:=aBN n) (f:=lP) (n:=n.1.toNat) (st:=fun k out r=>((k:Int),r,(a,b,c,out,[],0,0,()),())) (fin:=fun d r=>aAW a b c d r) (fun k out r rec hk ho=>?_) (fun out r rec=>?_) 100 n.2.1 (by omega)
  ·rw[aBN];simp only[klt hk,aA];refine fV fun q _=>?_;rw[yL (by omega),aQ (n:=n.1.toNat) hk (by simp only[lenMax];omega)];rfl
  ·rw[aBN];simp only[zZ n0,aB];unfold aAW;refine fV fun e _=>fV fun f _=>fV fun g _=>fV fun x _=>?_;cases x.1
   ·rfl
   ·simp only[aV,aB,iR];cases hi:bI (a,b,c,out,e.1,f.1,g.1,())
    ·rfl
    ·simp only[aV,aB];unfold aBO;rw[hi];rfl
 have k2:∀(a:List Cl) (b:List Tp) (n:Int×Rd×Unit),0≤n.1→n.1≤16→aD (aBM 100 n) 100 ((0:Int),n.2.1,(a,b,[],[],[],0,0,()),())=(jC kQ n.1.toNat n.2.1).bind fun c=>aAU a b c.1 c.2.1:=by
  intro a b n n0 n1;refine zT (L:=aBM 100 n) (f:=kQ) (n:=n.1.toNat) (st:=fun k out r=>((k:Int),r,(a,b,out,[],[],0,0,()),())) (fin:=fun c r=>aAU a b c r) (fun k out r rec hk ho=>?_) (fun out r rec=>?_) 100 n.2.1 (by omega)
  ·rw[aBM];simp only[klt hk,aA];refine fV fun q _=>?_;rw[yL (by omega),aQ (n:=n.1.toNat) hk (by simp only[lenMax];omega)];rfl
  ·rw[aBM];simp only[zZ n0,aB];unfold aAU;refine fV fun e he=>?_;obtain⟨e0,e1⟩:=wR (by omega) he;exact k1 a b out e e0 (by omega)
 have k3:=zT (L:=aD5 100 n) (f:=sF) (n:=n.1.toNat) (st:=fun k out r=>((k:Int),r,(out,[],[],[],[],0,0,()),())) (fin:=fun a r=>aCC a r) (fun k out r rec hk ho=>?_) (fun out r rec=>?_) 100 n.2.1 (by omega)
 ·exact k3
 ·rw[aD5];simp only[klt hk,aA];unfold sF;simp only[Option.bind_assoc,aF];refine fV fun a _=>fV fun b _=>fV fun c _=>?_;rw[yL (by omega),aQ (n:=n.1.toNat) hk (by simp only[lenMax];omega)];rfl
 ·rw[aD5];simp only[zZ n0,aB];unfold aCC;refine fV fun b _=>fV fun e he=>?_;obtain⟨e0,e1⟩:=wR (by omega) he;exact k2 out b.1 e e0 (by omega)
theorem aWU (b:List Int) (r) (h:pA b=some r):∃k,aHj k b=some r:=⟨100,by rw[aWV];exact h⟩
end Go.Pli

