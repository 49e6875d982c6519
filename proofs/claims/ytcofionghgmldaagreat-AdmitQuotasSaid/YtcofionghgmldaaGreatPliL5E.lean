/- Sane, by the reference: what the functions come to. -/
import Derived.Test.YtcofionghgmldaaGreatPliL5A
namespace Go.Pli
open Go Go.PM
theorem iB {l:List Cl} {x:Int}:∀(n:Nat) (c:Int),c.toNat<n→x∈bQ l c→0≤x∧x≤c
 | 0,_,h,_=>by omega
 | n+1,c,h,hx=>by
  by_cases hc:c<0
  ·rw[bO hc] at hx;simp at hx
  ·rw[cF (by omega)] at hx
   have hlt:=kC (l:=l) (c:=c) (by omega)
   rcases List.mem_cons.1 hx with rfl | hx
   ·omega
   ·by_cases hk:kup l c<0
    ·rw[bO hk] at hx;simp at hx
    ·have:=iB n (kup l c) (by omega) hx
     omega
theorem aHy (l:List Cl) (c:Int) (b:Tp):aCC l (3,c,()) b=cP l (3,c,()) b:=by
 unfold aCC cP
 have h4:((3:Int)==4)=false:=rfl
 have h3:((3:Int)==3)=true:=rfl
 simp only[h4,h3,cond_true,cond_false,Bool.true_and]
 cases hb:b.1==3
 ·have hne:((((3:Int),c,()):Tp)==b)=false:=by
   rw[←rM]
   have:((3:Int)==b.1)=false:=by
    simp only[beq_eq_false_iff_ne,ne_eq] at hb⊢
    exact fun h=>hb h.symm
   simp[this]
  simp[hne]
 ·simp only[cond_true,Bool.true_and]
  unfold aY bZ
  by_cases hc:c<(l.length:Int)
  ·simp only[hc,decide_true,cond_true,Bool.true_and]
   cases hm:(bQ l c).contains b.2.1
   ·simp
   ·have hm':b.2.1∈bQ l c:=by simpa using hm
    have:=iB (c.toNat+1) c (by omega) hm'
    have a1:0≤b.2.1:=this.1
    have a2:b.2.1<(l.length:Int):=by omega
    simp[a1,a2]
  ·simp[hc]
theorem aKB {l:List Cl} {c x:Int} (h:x∈aY l c):0≤x∧x<(l.length:Int):=by
 unfold aY at h
 by_cases hc:c<(l.length:Int)
 ·simp only[hc,decide_true,cond_true] at h
  have:=iB (c.toNat+1) c (by omega) h
  omega
 ·simp[hc] at h
theorem aDr {l:List Cl} {c:Int}:(aY l c).length≤l.length+1:=by
 unfold aY
 by_cases hc:c<(l.length:Int)
 ·simp only[hc,decide_true,cond_true]
  have:=mF l (c.toNat+1) c (by omega)
  omega
 ·simp[hc]
theorem aDa (m:Im) (hf:Fit m) (rs:List Int) (hr:∀x∈rs,0≤x∧x<(m.1.length:Int)):∀(k F:Nat) (out:List Tp),k≤rs.length→k<100→k<F→out.length+8*k<10000→
  aA (sO m (rs,())) F (out,(k:Int) - 1,())=some (out++(((rs.take k).reverse).map fun s=>(bH m s).2.1).flatten,())
 | 0,F,out,_,_,hF,_=>by
  obtain⟨F,rfl⟩:∃n,F=n+1:=⟨F - 1,by omega⟩
  rw[aD,sO]
  simp
 | k+1,F,out,hk,hk100,hF,ho=>by
  obtain⟨F,rfl⟩:∃n,F=n+1:=⟨F - 1,by omega⟩
  have hlt:k<rs.length:=by omega
  have hg:=List.getElem?_eq_getElem hlt
  have hmem:rs[k]∈rs:=List.getElem_mem hlt
  obtain⟨x0,x1⟩:=hr _ hmem
  have hcls:=(rL (hf.cls _ (oG x0 x1))).2.1.1
  have hd:m.1.getD (rs[k]).toNat zCl=bH m rs[k]:=rfl
  have e:(((k+1:Nat):Int) - 1)=(k:Int):=by omega
  rw[aD,sO,e]
  have hroom:out.length+(bH m rs[k]).2.1.length<rowMax:=by simp only[rowMax];omega
  have hge:decide ((k:Int)≥0)=true:=aVW k
  simp only[hge,dlt hlt,Bool.and_self,cond_true,Int.toNat_natCast,getD_some hg,x0,x1,hd,hroom,decide_true]
  rw[cD (by omega) (by omega),aDa m hf rs hr k F _ (by omega) (by omega) (by omega) (by simp only[List.length_append];omega)]
  rw[List.take_succ_eq_append_getElem hlt]
  simp only[List.reverse_append,List.reverse_cons,List.reverse_nil,List.nil_append,List.cons_append,List.map_cons,List.flatten_cons,List.append_assoc]
theorem aDt (m:Im):∀l:List Int,(((l.reverse).map fun s=>(bH m s).2.1).flatten).length=bK (l.map fun s=>(bH m s).2.1.length)
 | []=>rfl
 | x::l=>by
  have ih:=aDt m l
  simp only[List.reverse_cons,List.map_append,List.map_cons,List.map_nil,List.flatten_append,List.flatten_cons,List.flatten_nil,List.append_nil,List.length_append,bK]
  omega
theorem aKJ (m:Im) (c:Int) (r) (h:eU m c=some r):∃k,aHm k m c=some r:=by
 unfold eU at h
 cases hi:bC m <;> simp only[hi,cond_true,cond_false] at h
 ·cases h
 injection h with h
 subst h
 have hf:=bE hi
 have h8:=hf.classes
 have hok:okL m.1=true:=by unfold okL;simp;omega
 have hlen:=aDr (l:=m.1) (c:=c)
 refine⟨100,?_⟩
 unfold aHm jC
 rw[hok]
 simp only[cond_true,Option.bind_some]
 rw[cD (by omega) (by omega),aDa m hf _ (fun x hx=>aKB hx) (aY m.1 c).length 100 [] (by omega) (by omega) (by omega) (by simp;omega),List.take_length]
 simp
theorem aBN {m:Im} {c:Int} (hi:bC m=true) (h1:c<(m.1.length:Int)):∃l:List Tp,eU m c=some (l,())∧l.length=dR m c:=by
 unfold eU
 rw[hi]
 refine⟨_,rfl,?_⟩
 rw[aDt]
 unfold dR aY
 simp[h1]
theorem aNa (m:Im) (c:Int) (r) (h:tL m c=some r):∃k,aJf k m c=some r:=by
 unfold tL at h
 cases hp:lW m c <;> simp only[hp,cond_true,cond_false] at h
 ·cases h
 injection h with h
 subst h
 obtain⟨hf,h0,h1,hh⟩:=aGB hp
 have hi:bC m=true:=by simp only[lW,Bool.and_eq_true] at hp;exact hp.1
 refine⟨100,?_⟩
 obtain⟨⟨c1,c2⟩,⟨c3,c4⟩,⟨c5,c6⟩⟩:=rL (hf.cls _ (oG h0 h1))
 unfold aJf cO
 have hd:m.1.getD c.toNat zCl=bH m c:=rfl
 have hd2:(bH m c).1=bX m.1 c:=rfl
 rw[hd,hd2]
 simp only[h0,h1,decide_true,Bool.and_self,cond_true,nP]
 have h8:=hf.classes
 have hok:okL m.1=true:=by unfold okL;simp;omega
 by_cases hs:bX m.1 c<c
 ·have hns:¬bX m.1 c≥c:=by omega
  simp only[hs,hns,decide_true,decide_false,cond_false,Bool.true_and]
  cases hg:cZ m (bH m c).2.1
  ·rfl
  ·obtain⟨fl,hfl,hfn⟩:=aBN hi h1
   rw[hfl]
   simp only[Bool.not_true,cond_false,Option.bind_some,Bool.true_and,hfn]
   by_cases h8:dR m c≤8
   ·have h8':¬(dR m c:Int)>8:=by omega
    simp only[h8,h8',decide_true,decide_false,cond_false,Bool.true_and]
    have hup:(bif decide (bX m.1 c≥0) then bif decide (0≤bX m.1 c)&&decide (bX m.1 c<(m.1.length:Int)) then (some (.inl ((m.1.getD (bX m.1 c).toNat zCl).2.2.1,())):Option ((List Int×Unit)⊕(Bool×Unit))) else none else some (.inl (([]:List Int),())))=some (.inl (bR m c,())):=by
     unfold bR
     by_cases hk:0≤bX m.1 c
     ·have a:bX m.1 c≥0:=hk
      have b:bX m.1 c<(m.1.length:Int):=by omega
      simp only[a,b,decide_true,Bool.and_self,cond_true]
      rfl
     ·have a:¬bX m.1 c≥0:=hk
      simp only[a,decide_false,cond_false]
    rw[hup]
    simp only[Option.bind_some]
    by_cases hu:(bR m c).length≤(bH m c).2.2.1.length
    ·have hu':¬((bH m c).2.2.1.length:Int)<((bR m c).length:Int):=by omega
     simp only[hu,hu',decide_true,decide_false,cond_false,Bool.true_and]
     have key:aA (wL m c (bR m c,())) 100 ((0:Int),())=bif mX (rD m c) 0 (bH m c).2.2.1 then some (true,()) else some (false,()):=by
      refine vU (st:=fun k=>((k:Int),())) (p:=rD m c) (fun k f rec hk hlt=>?_) (fun rec=>?_) _ (by omega)
      ·rw[wL]
       obtain⟨f0,f11⟩:=aQk hf h0 h1 hk
       simp only[hd,dlt hlt,dge,Bool.and_self,cond_true,Int.toNat_natCast,getD_some hk,aN hlt (show (bH m c).2.2.1.length≤lenMax by simp only[lenMax];omega)]
       unfold rD sin
       by_cases hfl:f<(m.2.2.2.1.length:Int)
       ·have hfl':¬f≥(m.2.2.2.1.length:Int):=by omega
        have e1:m.2.2.2.1.getD f.toNat zMt=aC m f:=rfl
        simp only[f0,hfl,hfl',decide_true,decide_false,cond_true,cond_false,Bool.and_self,Bool.true_and,e1]
        unfold aAl
        by_cases hpl:0<(aC m f).1.length
        ·have p1:((aC m f).1.length:Int)≠0:=by omega
         have p2:(((aC m f).1.length:Int)==0)=false:=by simpa using p1
         have p3:(0:Int)<((aC m f).1.length:Int):=by omega
         have hrs:uB m.1 ((3:Int),c,()) ((aC m f).1.getD 0 zTp)=some (cP m.1 ((3:Int),c,()) ((aC m f).1.getD 0 zTp),()):=by
          unfold uB;rw[hok,aHy];rfl
         simp only[p2,p3,hpl,decide_true,cond_true,cond_false,Bool.true_and,hrs,Option.bind_some]
         cases hks:cP m.1 ((3:Int),c,()) ((aC m f).1.getD 0 zTp)
         ·rfl
         ·simp only[Bool.not_true,cond_false,Bool.true_and]
          by_cases hku:k<(bR m c).length
          ·obtain⟨⟨u1,u2⟩,u3⟩:=aGX hh hs hku
           have e2:m.2.2.2.1.getD ((bR m c).getD k 0).toNat zMt=aC m ((bR m c).getD k 0):=rfl
           have q1:(1:Int)≤((aC m f).1.length:Int):=by omega
           have q2:(1:Int)≤((aC m ((bR m c).getD k 0)).1.length:Int):=by omega
           have q3:∀n:Int,decide (n≤n)=true:=fun n=>decide_eq_true (Int.le_refl n)
           simp only[dlt hku,hku,cond_true,u1,u2,e2,decide_true,Bool.and_self,Bool.not_true,Bool.false_or,q1,q2,q3,sM,rM]
           unfold yY aEE
           simp only[hpl,u3,decide_true,Bool.true_and]
           cases List.drop 1 (aC m f).1==List.drop 1 (aC m ((bR m c).getD k 0)).1 <;> cases (aC m f).2.2.1==(aC m ((bR m c).getD k 0)).2.2.1 <;> rfl
          ·have:¬(k:Int)<((bR m c).length:Int):=by omega
           simp[this,hku]
        ·have p1:(aC m f).1.length=0:=by omega
         simp[p1]
       ·have hfl':f≥(m.2.2.2.1.length:Int):=by omega
        simp[hfl,hfl']
      ·rw[wL]
       simp only[hd,bB,cond_false]
     rw[key]
     cases mX (rD m c) 0 (bH m c).2.2.1 <;> rfl
    ·have hu':((bH m c).2.2.1.length:Int)<((bR m c).length:Int):=by omega
     simp[hu,hu']
   ·have h8':(dR m c:Int)>8:=by omega
    simp[h8,h8']
 ·have hns:bX m.1 c≥c:=by omega
  simp[hs,hns]
theorem aNp (m:Im) (x:Mt) (i:Ins) (r) (h:tZ m x i=some r):aIn m x i=some r:=by
 unfold tZ at h
 cases hp:nA m x&&dQ i <;> simp only[hp,cond_true,cond_false] at h
 ·cases h
 injection h with h
 subst h
 simp only[Bool.and_eq_true,nA] at hp
 obtain⟨⟨hi,ha,hx⟩,hg⟩:=hp
 obtain⟨⟨x1,_⟩,⟨x2,_⟩,_,⟨x4,_⟩,_⟩:=jY hx
 obtain⟨_,⟨a0,_⟩,⟨b0,_⟩,_,_⟩:=aAx hg
 unfold aIn bI
 have hw:IntKind.i64.wrap ((x.1.length:Int)+(x.2.1.length:Int))=((x.1.length+x.2.1.length:Nat):Int):=by
  rw[cD (by omega) (by omega)];omega
 rw[hw]
 have sa:∀n:Int,sin i.2.1 n=decide (i.2.1<n):=fun n=>by unfold sin;rw[decide_eq_true a0];rfl
 have sb:∀n:Int,sin i.2.2.1 n=decide (i.2.2.1<n):=fun n=>by unfold sin;rw[decide_eq_true b0];rfl
 simp only[sa,sb]
 have h27:(bif decide (i.2.1<(m.1.length:Int)) then (eU m i.2.1).bind fun r9=>(some (decide (i.2.2.1<(r9.1.length:Int)),()):Option (Bool×Unit)) else some (false,()))=
   some (decide (i.2.1<(m.1.length:Int))&&decide (i.2.2.1<(dR m i.2.1:Int)),()):=by
  by_cases h1:i.2.1<(m.1.length:Int)
  ·obtain⟨fl,hfl,hfn⟩:=aBN hi h1
   simp[h1,hfl,hfn]
  ·simp[h1]
 have h32:(bif decide (i.2.1<(m.1.length:Int)) then (bif decide (0≤i.2.1)&&decide (i.2.1<m.1.length) then (some (decide (i.2.2.1<((m.1.getD i.2.1.toNat zCl).2.2.1.length:Int)),()):Option (Bool×Unit)) else none) else some (false,()))=
   some (decide (i.2.1<(m.1.length:Int))&&decide (i.2.2.1<((bH m i.2.1).2.2.1.length:Int)),()):=by
  by_cases h1:i.2.1<(m.1.length:Int)
  ·simp only[h1,a0,decide_true,Bool.and_self,cond_true,Bool.true_and]
   rfl
  ·simp[h1]
 simp only[h27,h32]
 cases i.1==1 <;> cases i.1==3 <;> cases i.1==4 <;> cases i.1==18 <;> cases i.1==19 <;> try rfl
 all_goals (cases i.1==22 <;> cases i.1==34 <;> cases i.1==27 <;> cases i.1==28 <;> cases i.1==29 <;> cases i.1==30 <;> cases i.1==31 <;> cases i.1==32 <;> rfl)
theorem aKK (m:Im) (x:Mt) (r) (h:qK m x=some r):∃k,aG1 k m x=some r:=by
 unfold qK at h
 cases hp:nA m x <;> simp only[hp,cond_true,cond_false] at h
 ·cases h
 injection h with h
 subst h
 have hp':=hp
 simp only[Bool.and_eq_true,nA] at hp
 obtain⟨hi,ha,hx⟩:=hp
 obtain⟨⟨x1,_⟩,⟨x2,_⟩,_,⟨x4,x5⟩,_⟩:=jY hx
 refine⟨100,?_⟩
 have key:aA (sZ m x) 100 ((0:Int),())=bif x.2.2.2.1.all (bI m x) then some (true,()) else some (false,()):=by
  refine dD (st:=fun k=>((k:Int),())) (p:=bI m x) (fun k i rec hk hlt=>?_) (fun rec=>?_) _ (by omega)
  ·rw[sZ]
   have hsi:tZ m x i=some (bI m x i,()):=by unfold tZ;rw[hp',x5 i (List.mem_of_getElem? hk)];rfl
   simp only[dlt hlt,dge,Bool.and_self,cond_true,Int.toNat_natCast,getD_some hk,aN hlt (show x.2.2.2.1.length≤lenMax by simp only[lenMax];omega),hsi,Option.bind_some]
   cases bI m x i <;> rfl
  ·rw[sZ]
   simp only[bB,cond_false]
 unfold aG1 cJ
 rw[key,cD (by omega) (by omega),aGt]
 have hret:((x.2.2.1.1==5)&&((x.2.2.1.2.1==0)&&true))=(x.2.2.1==(5,0,())):=rM x.2.2.1 (5,0,())
 rw[hret]
 have hz:((x.2.2.2.1.length:Int)==0)=decide (x.2.2.2.1.length=0):=by
  by_cases hz:x.2.2.2.1.length=0
  ·simp[hz]
  ·have:¬((x.2.2.2.1.length:Int)=0):=by omega
   simp[hz]
 have h8:decide ((x.1.length:Int)+(x.2.1.length:Int)>8)= !decide (x.1.length+x.2.1.length≤8):=by
  by_cases h8:x.1.length+x.2.1.length≤8
  ·have:¬((x.1.length:Int)+(x.2.1.length:Int)>8):=by omega
   simp[h8,this]
  ·have:((x.1.length:Int)+(x.2.1.length:Int)>8):=by omega
   simp[h8,this]
 have hne:decide (x.2.2.2.1.length≠0)= !decide (x.2.2.2.1.length=0):=by by_cases h:x.2.2.2.1.length=0 <;> simp[h]
 rw[hz,h8,hne]
 unfold nP aAL
 cases cZ m x.1 <;> cases cZ m x.2.1 <;> cases x.2.2.1==(5,0,()) <;> cases dY x.2.2.1 (m.1.length:Int) <;> cases decide (x.2.2.2.1.length=0) <;> try rfl
 all_goals (cases decide (x.2.2.2.2.2.2.1.length=x.2.2.2.1.length) <;> cases decide (x.1.length+x.2.1.length≤8) <;> cases x.2.2.2.1.all (bI m x) <;> rfl)
theorem tB {α:Type} (p:α→Bool) (d:α):∀l:List α,(List.range l.length).all (fun k=>p (l.getD k d))=l.all p
 | []=>rfl
 | x::l=>by
  have ih:=tB p d l
  rw[List.length_cons,List.range_succ_eq_map]
  simp only[List.all_cons,List.all_map,List.getD_cons_zero]
  rw[←ih]
  rfl
theorem aQp (m:Im) (_:aPS m):∃k,aLE k m=some (sC m,()):=by
 refine⟨100,?_⟩
 unfold aLE sC dS rV
 cases hi:bC m
 ·rfl
 have hf:=bE hi
 simp only[Bool.not_true,cond_false,cond_true,nP]
 have h8:=hf.classes
 have h12:=hf.methods
 have hent:=hf.entries
 simp only[eO,aR,Bool.and_eq_true,decide_eq_true_eq,List.all_eq_true] at hent
 have k1:aA (pT m) 100 (cZ m m.2.1,((0:Int),()))=some (.inl (cZ m m.2.1&&mY m,())):=by
  have h:=aCY (L:=pT m) (N:=m.1.length) (q:=fun k=>cO m (k:Int)) (fin:=fun b=>some (.inl (b,()))) (fun k rec hlt hh=> .inl ?_) (fun k rec _=>?_) (fun rec=>?_) 100 (cZ m m.2.1) (by omega)
  ·exact h
  ·rw[pT]
   have hpc:lW m (k:Int)=true:=by
    simp only[lW,Bool.and_eq_true,decide_eq_true_eq]
    exact⟨hi,by omega,by omega,iI.2 fun j hj=>hh j (by omega)⟩
   have hsc:tL m (k:Int)=some (cO m (k:Int),()):=by unfold tL;rw[hpc];rfl
   simp only[dlt hlt,cond_true,hsc,Option.bind_some,aN hlt (show m.1.length≤lenMax by simp only[lenMax];omega)]
  ·rw[pT]
   cases decide ((k:Int)<(m.1.length:Int)) <;> rfl
  ·rw[pT]
   simp only[bB,cond_false]
 rw[k1]
 simp only[Option.bind_some]
 have k2:aA (oF m) 100 (cZ m m.2.1&&mY m,((0:Int),()))=some (.inl (cZ m m.2.1&&mY m&&m.2.2.2.1.all (cJ m),())):=by
  cases hac:mY m with
  | false=>
   simp only[Bool.and_false,Bool.false_and]
   rw[show (100:Nat)=99+1 from rfl,aD,oF]
   cases decide ((0:Int)<(m.2.2.2.1.length:Int)) <;> rfl
  | true=>
   rw[←tB (cJ m) zMt]
   have h:=aCY (L:=oF m) (N:=m.2.2.2.1.length) (q:=fun k=>cJ m (m.2.2.2.1.getD k zMt)) (fin:=fun b=>some (.inl (b,()))) (fun k rec hlt hh=> .inl ?_) (fun k rec _=>?_) (fun rec=>?_) 100 (cZ m m.2.1&&true) (by omega)
   ·exact h
   ·rw[oF]
    have hg:=List.getElem?_eq_getElem hlt
    have hpm:nA m m.2.2.2.1[k]=true:=by
     simp only[nA,Bool.and_eq_true]
     exact⟨hi,hac,hf.mts _ (List.getElem_mem hlt)⟩
    have hsm:qK m m.2.2.2.1[k]=some (cJ m m.2.2.2.1[k],()):=by unfold qK;rw[hpm];rfl
    simp only[dlt hlt,dge,Bool.and_self,cond_true,Int.toNat_natCast,getD_some hg,hsm,Option.bind_some,aN hlt (show m.2.2.2.1.length≤lenMax by simp only[lenMax];omega)]
   ·rw[oF]
    cases decide ((k:Int)<(m.2.2.2.1.length:Int)) <;> rfl
   ·rw[oF]
    simp only[bB,cond_false]
 rw[k2]
 simp only[Option.bind_some]
 have hsB:jQ m=(cZ m m.2.1&&mY m&&m.2.2.2.1.all (cJ m)&&m.2.2.2.2.1.all (gV m)):=by
  unfold jQ
  rw[Bool.and_assoc,Bool.and_assoc]
 rw[hsB]
 cases hb:cZ m m.2.1&&mY m&&m.2.2.2.1.all (cJ m) with
 | false=>
  rw[show (100:Nat)=99+1 from rfl,aD,qM]
  cases decide ((0:Int)<(m.2.2.2.2.1.length:Int)) <;> rfl
 | true=>
  rw[Bool.true_and,←tB (gV m) 0]
  have hmB:∀x∈m.2.2.2.1,cJ m x=true:=by
   simp only[Bool.and_eq_true,List.all_eq_true] at hb
   exact hb.2
  have k4:=aCY (L:=qM m 100) (N:=m.2.2.2.2.1.length) (q:=fun k=>gV m (m.2.2.2.2.1.getD k 0)) (fin:=fun b=>bif b then some ((0:Int),()) else some ((3:Int),())) (fun k rec hlt hh=>?_) (fun k rec _=>?_) (fun rec=>?_) 100 true (by omega)
  ·refine Eq.trans k4 ?_
   cases (List.range m.2.2.2.2.1.length).all fun k=>gV m (m.2.2.2.2.1.getD k 0) <;> rfl
  ·have hg:=List.getElem?_eq_getElem hlt
   obtain⟨f0,f11⟩:=hent.2 _ (List.getElem_mem hlt)
   rw[qM]
   simp only[dlt hlt,dge,Bool.and_self,cond_true,Int.toNat_natCast,getD_some hg]
   by_cases hfl:m.2.2.2.2.1[k]<(m.2.2.2.1.length:Int)
   ·refine .inl ?_
    have hfl':¬m.2.2.2.2.1[k]≥(m.2.2.2.1.length:Int):=by omega
    have e1:m.2.2.2.1.getD (m.2.2.2.2.1[k]).toNat zMt=aC m m.2.2.2.2.1[k]:=rfl
    simp only[f0,hfl,hfl',decide_true,decide_false,cond_true,cond_false,Bool.and_self,e1]
    have hmm:=jP f0 hfl
    have hmb:=hmB _ hmm
    have hm4:=(jY (hf.mts _ hmm)).1.1
    simp only[cJ,Bool.and_eq_true] at hmb
    obtain⟨hgp,_,hgr,_⟩:=hmb
    have hkg:∀t:Tp,dY t (m.1.length:Int)=true→sentry1 t=(t.1==1):=fun t ht=>by
     unfold sentry1
     cases h1:t.1==1
     ·rfl
     ·unfold dY at ht
      rw[h1] at ht
      simpa using ht
    have hre:(sentry1 (aC m m.2.2.2.2.1[k]).2.2.1 || (aC m m.2.2.2.2.1[k]).2.2.1.1==5)=((aC m m.2.2.2.2.1[k]).2.2.1.1==1 || (aC m m.2.2.2.2.1[k]).2.2.1.1==5):=by
     cases h5:(aC m m.2.2.2.2.1[k]).2.2.1.1==5
     ·have:dY (aC m m.2.2.2.2.1[k]).2.2.1 (m.1.length:Int)=true:=by
       rcases Bool.or_eq_true _ _ ▸ hgr with h | h
       ·have:(aC m m.2.2.2.2.1[k]).2.2.1=(5,0,()):=by simpa using h
        rw[this] at h5;simp at h5
       ·exact h
      rw[hkg _ this]
     ·simp
    have hall:(aC m m.2.2.2.2.1[k]).1.all sentry1=(aC m m.2.2.2.2.1[k]).1.all fun t=>t.1==1:=by
     have hgp':∀t∈(aC m m.2.2.2.2.1[k]).1,dY t (m.1.length:Int)=true:=by simpa[cZ] using hgp
     have key:∀l:List Tp,(∀t∈l,dY t (m.1.length:Int)=true)→l.all sentry1=l.all fun t=>t.1==1:=by
      intro l
      induction l with
      | nil=>intro _;rfl
      | cons t l ih=>
       intro hl
       rw[List.all_cons,List.all_cons,hkg t (hl t (by simp)),ih fun t' h=>hl t' (by simp[h])]
     exact key _ hgp'
    have hbool:(bif (aC m m.2.2.2.2.1[k]).2.2.1.1==1 then (some (.inl (true,())):Option ((Bool×Unit)⊕(Int×Unit))) else some (.inl ((aC m m.2.2.2.2.1[k]).2.2.1.1==5,())))=some (.inl ((aC m m.2.2.2.2.1[k]).2.2.1.1==1 || (aC m m.2.2.2.2.1[k]).2.2.1.1==5,())):=by
     cases (aC m m.2.2.2.2.1[k]).2.2.1.1==1 <;> rfl
    rw[hbool,←hre]
    simp only[Option.bind_some]
    have hin:=aCY (L:=vD m (true,(k:Int),()) rec) (N:=(aC m m.2.2.2.2.1[k]).1.length) (q:=fun j=>((aC m m.2.2.2.2.1[k]).1.getD j zTp).1==1) (fin:=fun b=>rec (b,((k+1:Nat):Int),())) (fun j rec2 hj hh=> .inl ?_) (fun j rec2 _=>?_) (fun rec2=>?_) 100 (sentry1 (aC m m.2.2.2.2.1[k]).2.2.1 || (aC m m.2.2.2.2.1[k]).2.2.1.1==5) (by omega)
    ·refine Eq.trans hin ?_
     have hr:=tB (fun t:Tp=>t.1==1) zTp (aC m m.2.2.2.2.1[k]).1
     have:(List.range (aC m m.2.2.2.2.1[k]).1.length).all (fun j=>((aC m m.2.2.2.2.1[k]).1.getD j zTp).1==1)=(aC m m.2.2.2.2.1[k]).1.all fun t=>t.1==1:=hr
     rw[this,←hall]
     unfold gV sin
     simp only[f0,hfl,decide_true,Bool.true_and]
    ·rw[vD]
     simp only[Int.toNat_natCast,getD_some hg,f0,hfl,decide_true,Bool.and_self,cond_true,e1,dlt hj,dge,aN hj (show (aC m m.2.2.2.2.1[k]).1.length≤lenMax by simp only[lenMax];omega)]
    ·rw[vD]
     simp only[Int.toNat_natCast,getD_some hg,f0,hfl,decide_true,Bool.and_self,cond_true,cond_false,e1,aN hlt (show m.2.2.2.2.1.length≤lenMax by simp only[lenMax];omega)]
     cases decide ((j:Int)<((aC m m.2.2.2.2.1[k]).1.length:Int)) <;> rfl
    ·rw[vD]
     simp only[Int.toNat_natCast,getD_some hg,f0,hfl,decide_true,Bool.and_self,cond_true,cond_false,e1,bB,aN hlt (show m.2.2.2.2.1.length≤lenMax by simp only[lenMax];omega)]
   ·refine .inr ⟨?_,?_⟩
    ·unfold gV sin
     simp[hfl]
    ·have hfl':m.2.2.2.2.1[k]≥(m.2.2.2.1.length:Int):=by omega
     simp only[hfl',decide_true,cond_true,cond_false]
  ·rw[qM]
   cases decide ((k:Int)<(m.2.2.2.2.1.length:Int)) <;> rfl
  ·rw[qM]
   simp only[bB,cond_false,Bool.not_true,cond_true]
end Go.Pli

namespace Go.Pli
open Go Go.PM
theorem aIb {α:Type} {l:List α} (h:l.length<1000000):decide (([]:List α).length+l.length<rowMax)=true:=decide_eq_true (by simp[rowMax];omega)
theorem aE0 {l:List Tp} (h:l.length<1000000):aDP l=some (l,()):=by unfold aDP qO;rw[aIb h];rfl
theorem aVe {l:List Int} (h:l.length<1000000):aMX l=some (l,()):=by unfold aMX aC1;rw[aIb h];rfl
theorem aKb {l:List Int} (h:l.length<1000000):aGe l=some (l,()):=by unfold aGe aCL;rw[aIb h];rfl
theorem aUs {l:List Ins} (h:l.length<1000000):aMU l=some (l,()):=by unfold aMU aCz;rw[aIb h];rfl
theorem aJL {α β σ R:Type} {L:σ→(σ→Option R)→Option R} {xs:List α} {f:α→β} {st:Nat→List β→σ} {fin:Option R}
  (h1:∀(k:Nat) (x:α) (acc:List β) (rec),xs[k]? =some x→k<xs.length→acc.length=k→L (st k acc) rec=rec (st (k+1) (acc++[f x])))
  (h2:∀rec,L (st xs.length (xs.map f)) rec=fin):∀F:Nat,xs.length<F→aA L F (st 0 [])=fin:=by
 have key:∀(l pre:List α) (F:Nat),xs=pre++l→l.length<F→aA L F (st pre.length (pre.map f))=fin:=by
  intro l
  induction l with
  | nil=>
   intro pre F hx hF
   obtain⟨F,rfl⟩:∃n,F=n+1:=⟨F - 1,by simp at hF;omega⟩
   rw[List.append_nil] at hx
   subst hx
   rw[aD,h2]
  | cons x l ih=>
   intro pre F hx hF
   obtain⟨F,rfl⟩:∃n,F=n+1:=⟨F - 1,by simp at hF;omega⟩
   have hk:xs[pre.length]? =some x:=by rw[hx];simp
   have hl:pre.length<xs.length:=by rw[hx];simp
   rw[aD,h1 pre.length x _ _ hk hl (by simp)]
   have:=ih (pre++[x]) F (by rw[hx];simp) (by simp only[List.length_cons] at hF;omega)
   simpa using this
 intro F hF
 exact key xs [] F rfl hF
theorem aR3 (m:Im) (r) (h:aFw m=some r):∃k,aOo k m=some r:=by
 unfold aFw at h
 cases hi:bC m <;> simp only[hi,cond_true,cond_false] at h
 ·cases h
 injection h with h
 subst h
 have hf:=bE hi
 have h8:=hf.classes
 have h12:=hf.methods
 have h16:=hf.ints
 have hst:=hf.statics
 have hent:=hf.entries
 simp only[cQ,eO,Bool.and_eq_true,decide_eq_true_eq] at hst hent
 refine⟨100,?_⟩
 have k1:aA (aCQ m) 100 ((0:Int),(m.1,m.2.1,m.2.2.1,([]:List Mt),m.2.2.2.2.1,m.2.2.2.2.2),())=some (m,()):=by
  refine aJL (xs:=m.2.2.2.1) (f:=id) (st:=fun k acc=>((k:Int),(m.1,m.2.1,m.2.2.1,acc,m.2.2.2.2.1,m.2.2.2.2.2),())) (fun k x acc rec hk hlt hacc=>?_) (fun rec=>?_) 100 (by omega)
  ·rw[aCQ]
   obtain⟨⟨x1,_⟩,⟨x2,_⟩,_,⟨x4,_⟩,_,_,⟨x7,_⟩⟩:=jY (hf.mts x (List.mem_of_getElem? hk))
   have hroom:∀y:Mt,decide (acc.length+[y].length<rowMax)=true:=fun y=>decide_eq_true (by simp[rowMax];omega)
   simp only[dlt hlt,dge,Bool.and_self,cond_true,Int.toNat_natCast,getD_some hk,aE0 (show x.1.length<1000000 by omega),aE0 (show x.2.1.length<1000000 by omega),aUs (show x.2.2.2.1.length<1000000 by omega),
    aKb (show x.2.2.2.2.2.2.1.length<1000000 by omega),Option.bind_some,hroom,aN hlt (show m.2.2.2.1.length≤lenMax by simp only[lenMax];omega)]
   rfl
  ·rw[aCQ]
   simp only[bB,cond_false,List.map_id]
   rfl
 have k2:aA (aCx m 100) 100 ((0:Int),(([]:List Cl),m.2.1,m.2.2.1,([]:List Mt),m.2.2.2.2.1,m.2.2.2.2.2),())=some (m,()):=by
  refine aJL (xs:=m.1) (f:=id) (st:=fun k acc=>((k:Int),(acc,m.2.1,m.2.2.1,([]:List Mt),m.2.2.2.2.1,m.2.2.2.2.2),())) (fun k x acc rec hk hlt hacc=>?_) (fun rec=>?_) 100 (by omega)
  ·rw[aCx]
   obtain⟨_,⟨c3,_⟩,⟨c5,_⟩⟩:=rL (hf.cls x (List.mem_of_getElem? hk))
   have hroom:∀y:Cl,decide (acc.length+[y].length<rowMax)=true:=fun y=>decide_eq_true (by simp[rowMax];omega)
   simp only[dlt hlt,dge,Bool.and_self,cond_true,Int.toNat_natCast,getD_some hk,aE0 (show x.2.1.length<1000000 by omega),aKb (show x.2.2.1.length<1000000 by omega),Option.bind_some,hroom,
    aN hlt (show m.1.length≤lenMax by simp only[lenMax];omega)]
   rfl
  ·rw[aCx]
   simp only[bB,cond_false,List.map_id]
   exact k1
 unfold aOo
 rw[aE0 (by omega),aVe (by omega),aKb (by omega)]
 exact k2
end Go.Pli

namespace Go.Pli
open Go Go.PM
end Go.Pli

namespace Go.Pli
open Go Go.PM
theorem bV {α β:Type} {o:Option α} {f g:α→Option β} (h:∀a,o=some a→f a=g a):o.bind f=o.bind g:=by
 cases o with
 | none=>rfl
 | some a=>exact h a rfl
theorem aLf {r:Rd} {s} (h:next r=some s):0≤s.1:=by
 unfold next at h
 cases hb:fK (r.1.take 5) <;> simp only[hb,cond_true,cond_false] at h
 ·cases h
 ·split at h
  ·injection h with h;subst h;exact Int.natCast_nonneg _
  ·injection h with h;subst h;exact Int.le_refl _
theorem tM {r:Rd} {n:Int} {s} (hn:n<9223372036854775808) (h:dE r n=some s):0≤s.1∧s.1≤max n 0:=by
 unfold dE at h
 cases hr:r.2.1 <;> simp only[hr,cond_true,cond_false] at h
 ·cases hx:next r with
  | none=>rw[hx] at h;cases h
  | some q=>
   rw[hx] at h
   simp only[Option.bind_some] at h
   have h0:=aLf hx
   cases hq:q.2.1 <;> simp only[hq,Bool.not_true,Bool.not_false,cond_true,cond_false] at h
   ·injection h with h;subst h;exact⟨Int.le_refl _,by omega⟩
   ·by_cases hneg:n<0
    ·simp only[hneg,decide_true,cond_true] at h
     injection h with h;subst h;exact⟨Int.le_refl _,by omega⟩
    ·simp only[hneg,decide_false,cond_false] at h
     have hw:IntKind.u64.wrap n=n:=by rw[IntKind.wrap_u64];omega
     rw[hw] at h
     by_cases hgt:q.1>n
     ·simp only[hgt,decide_true,cond_true] at h
      injection h with h;subst h;exact⟨Int.le_refl _,by omega⟩
     ·simp only[hgt,decide_false,cond_false] at h
      injection h with h;subst h
      have hw2:IntKind.i64.wrap q.1=q.1:=cD (by omega) (by omega)
      simp only[hw2]
      omega
 ·injection h with h;subst h;exact⟨Int.le_refl _,by omega⟩
theorem qD {α σ R:Type} {L:σ→(σ→Option R)→Option R} {f:Rd→Option (α×Rd×Unit)} {n:Nat} {st:Nat→List α→Rd→σ} {fin:List α→Rd→Option R}
  (h1:∀(k:Nat) (out:List α) (r:Rd) (rec),k<n→out.length=k→L (st k out r) rec=(f r).bind fun q=>rec (st (k+1) (out++[q.1]) q.2.1))
  (h2:∀(out:List α) (r:Rd) (rec),L (st n out r) rec=fin out r):∀(F:Nat) (r:Rd),n<F→aA L F (st 0 [] r)=(pR f n r).bind fun p=>fin p.1 p.2.1:=by
 have key:∀(d k F:Nat) (out:List α) (r:Rd),k+d=n→out.length=k→d<F→aA L F (st k out r)=(pR f d r).bind fun p=>fin (out++p.1) p.2.1:=by
  intro d
  induction d with
  | zero=>
   intro k F out r hk ho hF
   obtain⟨F,rfl⟩:∃n,F=n+1:=⟨F - 1,by omega⟩
   have:k=n:=by omega
   subst this
   rw[aD,h2]
   simp[pR]
  | succ d ih=>
   intro k F out r hk ho hF
   obtain⟨F,rfl⟩:∃n,F=n+1:=⟨F - 1,by omega⟩
   rw[aD,h1 k out r _ (by omega) ho,pR,Option.bind_assoc]
   refine bV fun q _=>?_
   rw[ih (k+1) F (out++[q.1]) q.2.1 (by omega) (by simp[ho]) (by omega),Option.bind_assoc]
   refine bV fun p _=>?_
   simp
 intro F r hF
 have:=key n 0 F [] r (by omega) rfl hF
 simpa using this
theorem aOd (r:Rd) (s) (h:oQ r=some s):aR5 r=some s:=by
 rw[←h];rfl
theorem klt {k:Nat} {a:Int} (h:k<a.toNat):decide ((k:Int)<a)=true:=decide_eq_true (by omega)
theorem aGb {a:Int} (h:0≤a):decide (((a.toNat:Nat):Int)<a)=false:=decide_eq_false (by omega)
theorem aCr {α:Type} {out:List α} {x:α} (h:out.length<100000):decide (out.length+[x].length<rowMax)=true:=decide_eq_true (by simp[rowMax];omega)
theorem aLu (r:Rd) {m:Int} (hm:m≤1000):aBk 1001 r m=fD r m:=by
 unfold aBk fD nO
 rw[decide_eq_true hm]
 simp only[cond_true]
 refine bV fun a ha=>?_
 obtain⟨a0,a1⟩:=tM (by omega) ha
 have:=qD (L:=sT a) (f:=oQ) (n:=a.1.toNat) (st:=fun k out r=>(out,(k:Int),r,())) (fin:=fun out r=>some (out,r,())) (fun k out r rec hk ho=>?_) (fun out r rec=>?_) 1001 a.2.1 (by omega)
 ·refine Eq.trans this ?_
  cases pR oQ a.1.toNat a.2.1 <;> rfl
 ·rw[sT]
  simp only[klt hk,cond_true]
  refine bV fun q _=>?_
  rw[aCr (by omega),aN (n:=a.1.toNat) hk (by simp only[lenMax];omega)]
  rfl
 ·rw[sT]
  simp only[aGb a0,cond_false,idL]
theorem aK2 (r:Rd) (m:Int) (s) (h:fD r m=some s):∃k,aBk k r m=some s:=by
 have hm:m≤1000:=by
  unfold fD at h
  by_cases hm:m≤1000
  ·exact hm
  ·rw[decide_eq_false hm] at h;cases h
 exact⟨1001,by rw[aLu r hm];exact h⟩
theorem aOe (r:Rd) {c m:Int} (hc:c≤1000):aDY 1001 r c m=iK r c m:=by
 unfold aDY iK nO
 rw[decide_eq_true hc]
 simp only[cond_true]
 refine bV fun a ha=>?_
 obtain⟨a0,a1⟩:=tM (by omega) ha
 have:=qD (L:=vX m a) (f:=fun r=>dE r m) (n:=a.1.toNat) (st:=fun k out r=>(out,(k:Int),r,())) (fin:=fun out r=>some (out,r,())) (fun k out r rec hk ho=>?_) (fun out r rec=>?_) 1001 a.2.1 (by omega)
 ·refine Eq.trans this ?_
  cases pR (fun r=>dE r m) a.1.toNat a.2.1 <;> rfl
 ·rw[vX]
  simp only[klt hk,cond_true]
  refine bV fun q _=>?_
  rw[aCr (by omega),aN (n:=a.1.toNat) hk (by simp only[lenMax];omega)]
  rfl
 ·rw[vX]
  simp only[aGb a0,cond_false,idL]
theorem aNx (r:Rd) (c m:Int) (s) (h:iK r c m=some s):∃k,aDY k r c m=some s:=by
 have hm:c≤1000:=by
  unfold iK at h
  by_cases hm:c≤1000
  ·exact hm
  ·rw[decide_eq_false hm] at h;cases h
 exact⟨1001,by rw[aOe r hm];exact h⟩
theorem aKu (r:Rd):aAK 100 r=jJ r:=by
 unfold aAK jJ nO
 refine bV fun a _=>bV fun b _=>bV fun c _=>?_
 rw[Option.bind_assoc]
 refine bV fun d hd=>?_
 obtain⟨d0,d1⟩:=tM (by omega) hd
 have:=qD (L:=qW d) (f:=aIj) (n:=d.1.toNat) (st:=fun k out r=>((k:Int),r,(a.1,b.1,c.1.1,c.1.2.1,out,0,0,[],()),()))
  (fin:=fun out r=>(dE r 8).bind fun e=>(dE e.2.1 4096).bind fun f=>(iK f.2.1 64 4096).bind fun g=>some ((a.1,b.1,c.1,out,e.1,f.1,g.1,()),g.2.1,())) (fun k out r rec hk ho=>?_) (fun out r rec=>?_) 100 d.2.1 (by omega)
 ·exact this
 ·rw[qW]
  simp only[klt hk,cond_true]
  refine bV fun q _=>?_
  rw[aCr (by omega),aN (n:=d.1.toNat) hk (by simp only[lenMax];omega)]
  rfl
 ·rw[qW]
  simp only[aGb d0,cond_false]
  rfl
theorem aJo (r:Rd) (s) (h:jJ r=some s):∃k,aAK k r=some s:=⟨100,by rw[aKu];exact h⟩
def aE3 (a:List Cl) (b:List Tp) (c:List Int) (d:List Mt) (r:Rd):Option (Im×Int×Unit):=
 (iK r 12 11).bind fun e=>(dE e.2.1 4096).bind fun f=>(dE f.2.1 4096).bind fun g=>(aOg g.2.1).bind fun x=>
  bif !x.1 || !bC (a,b,c,d,e.1,f.1,g.1,()) then some (zIm,2,()) else some ((a,b,c,d,e.1,f.1,g.1,()),0,())
def aFC (a:List Cl) (b:List Tp) (c:List Int) (r:Rd):Option (Im×Int×Unit):=
 (dE r 12).bind fun n=>(pR jJ n.1.toNat n.2.1).bind fun d=>aE3 a b c d.1 d.2.1
def aH7 (a:List Cl) (r:Rd):Option (Im×Int×Unit):=
 (fD r 8).bind fun b=>(dE b.2.1 16).bind fun n=>(pR xU n.1.toNat n.2.1).bind fun c=>aFC a b.1 c.1 c.2.1
theorem aNC (b:List Int):aEm 100 b=tV b:=by
 have hspec:tV b=bif decide ((b.length:Int)>8192) || (decide ((b.length:Int)<4) || !((strOfNums (b.take 4)).toList==(⟨#[112,108,105,109]⟩:ByteArray).toList)) then some (zIm,2,())
   else (dE (aMQ (b.drop 4)) 8).bind fun n=>(pR aAR n.1.toNat n.2.1).bind fun a=>aH7 a.1 a.2.1:=by
  unfold tV aPo nO aH7 aFC aE3
  simp only[Option.bind_assoc,Option.bind_some]
 rw[hspec]
 unfold aEm
 by_cases h1:(b.length:Int)>8192
 ·simp[h1]
 by_cases h2:(b.length:Int)<4
 ·simp[h1,h2]
 have h3:(4:Int)≤(b.length:Int):=by omega
 simp only[h1,h2,h3,decide_true,decide_false,cond_true,cond_false,List.drop_zero,Bool.false_or,Int.le_refl,Bool.and_self,List.take_length]
 cases hm:(strOfNums (b.take 4)).toList==(⟨#[112,108,105,109]⟩:ByteArray).toList
 ·rfl
 simp only[Bool.not_true,cond_false]
 refine bV fun n hn=>?_
 obtain⟨n0,n1⟩:=tM (by omega) hn
 have k1:∀(a:List Cl) (b:List Tp) (c:List Int) (n:Int×Rd×Unit),0≤n.1→n.1≤12→aA (rN n) 100 ((0:Int),n.2.1,(a,b,c,[],[],0,0,()),())=(pR jJ n.1.toNat n.2.1).bind fun d=>aE3 a b c d.1 d.2.1:=by
  intro a b c n n0 n1
  refine qD (L:=rN n) (f:=jJ) (n:=n.1.toNat) (st:=fun k out r=>((k:Int),r,(a,b,c,out,[],0,0,()),())) (fin:=fun d r=>aE3 a b c d r) (fun k out r rec hk ho=>?_) (fun out r rec=>?_) 100 n.2.1 (by omega)
  ·rw[rN]
   simp only[klt hk,cond_true]
   refine bV fun q _=>?_
   rw[aCr (by omega),aN (n:=n.1.toNat) hk (by simp only[lenMax];omega)]
   rfl
  ·rw[rN]
   simp only[aGb n0,cond_false]
   unfold aE3
   refine bV fun e _=>bV fun f _=>bV fun g _=>bV fun x _=>?_
   cases x.1
   ·rfl
   ·simp only[Bool.not_true,cond_false,Bool.false_or]
    cases hi:bC (a,b,c,out,e.1,f.1,g.1,())
    ·rfl
    ·simp only[Bool.not_true,cond_false]
     unfold aFw
     rw[hi]
     rfl
 have k2:∀(a:List Cl) (b:List Tp) (n:Int×Rd×Unit),0≤n.1→n.1≤16→aA (sF 100 n) 100 ((0:Int),n.2.1,(a,b,[],[],[],0,0,()),())=(pR xU n.1.toNat n.2.1).bind fun c=>aFC a b c.1 c.2.1:=by
  intro a b n n0 n1
  refine qD (L:=sF 100 n) (f:=xU) (n:=n.1.toNat) (st:=fun k out r=>((k:Int),r,(a,b,out,[],[],0,0,()),())) (fin:=fun c r=>aFC a b c r) (fun k out r rec hk ho=>?_) (fun out r rec=>?_) 100 n.2.1 (by omega)
  ·rw[sF]
   simp only[klt hk,cond_true]
   refine bV fun q _=>?_
   rw[aCr (by omega),aN (n:=n.1.toNat) hk (by simp only[lenMax];omega)]
   rfl
  ·rw[sF]
   simp only[aGb n0,cond_false]
   unfold aFC
   refine bV fun e he=>?_
   obtain⟨e0,e1⟩:=tM (by omega) he
   exact k1 a b out e e0 (by omega)
 have k3:=qD (L:=wK 100 n) (f:=aAR) (n:=n.1.toNat) (st:=fun k out r=>((k:Int),r,(out,[],[],[],[],0,0,()),())) (fin:=fun a r=>aH7 a r) (fun k out r rec hk ho=>?_) (fun out r rec=>?_) 100 n.2.1 (by omega)
 ·exact k3
 ·rw[wK]
  simp only[klt hk,cond_true]
  unfold aAR
  simp only[Option.bind_assoc,Option.bind_some]
  refine bV fun a _=>bV fun b _=>bV fun c _=>?_
  rw[aCr (by omega),aN (n:=n.1.toNat) hk (by simp only[lenMax];omega)]
  rfl
 ·rw[wK]
  simp only[aGb n0,cond_false]
  unfold aH7
  refine bV fun b _=>bV fun e he=>?_
  obtain⟨e0,e1⟩:=tM (by omega) he
  exact k2 out b.1 e e0 (by omega)
theorem aN0 (b:List Int) (r) (h:tV b=some r):∃k,aEm k b=some r:=⟨100,by rw[aNC];exact h⟩
end Go.Pli

