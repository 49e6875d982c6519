/- Sums: the printed functions come to what is told in plain Lean. -/
import Derived.Test.YtcofionghgmldaaGreatPliL11
import Derived.Lib.Mul64
namespace Go.Pli
open Go Go.PM
theorem aJI (n:Nat):IntKind.u64.wrap (n:Int)=((n % 18446744073709551616:Nat):Int):=by
 rw[IntKind.wrap_u64];omega
theorem aPl (n:Nat):(n:Int).fdiv 4294967296=((n/4294967296:Nat):Int):=by
 rw[Int.fdiv_eq_ediv_of_nonneg _ (by omega)];rfl
theorem aNP (n:Nat):(((BitVec.ofInt 64 (n:Int)&&&BitVec.ofInt 64 4294967295).toNat:Nat):Int)=((n % 4294967296:Nat):Int):=by
 have h1:(BitVec.ofInt 64 (n:Int)).toNat=n % 18446744073709551616:=by
  rw[BitVec.toNat_ofInt];omega
 have h2:(BitVec.ofInt 64 4294967295).toNat=2 ^ 32 - 1:=by decide
 rw[BitVec.toNat_and,h1,h2,Nat.and_two_pow_sub_one_eq_mod]
 congr 1
 omega
theorem aNs (x y:Int) (r) (h:uJ x y=some r):aGr x y=some r:=by
 unfold uJ at h
 cases hb:inU x&&inU y <;> simp only[hb,aA,aB] at h
 ·cases h
 injection h with h
 subst h
 simp only[inU,aC,aQ] at hb
 obtain⟨⟨x0,x1⟩,y0,y1⟩:=hb
 obtain⟨a,rfl⟩:∃a:Nat,x=a:=⟨x.toNat,by omega⟩
 obtain⟨b,rfl⟩:∃b:Nat,y=b:=⟨y.toNat,by omega⟩
 have ha:a<18446744073709551616:=by omega
 have hb:b<18446744073709551616:=by omega
 obtain⟨h1,h2,h3,h4⟩:=Lib.mul64_hi a b ha hb
 have ma:a % 4294967296 % 18446744073709551616=a % 4294967296:=hZ (by omega)
 have mb:b % 4294967296 % 18446744073709551616=b % 4294967296:=hZ (by omega)
 unfold aGr
 simp only[aPl,aNP,aJI,←Int.natCast_mul,←Int.natCast_add,ma,mb]
 have e1:a % 4294967296*(b % 4294967296) % 18446744073709551616=a % 4294967296*(b % 4294967296):=hZ h1
 simp only[e1]
 have p1:=Lib.half_mul_le (a:=a/4294967296) (b:=b % 4294967296) (by omega) (by omega)
 have e2:a/4294967296*(b % 4294967296) % 18446744073709551616=a/4294967296*(b % 4294967296):=hZ (by omega)
 simp only[e2]
 have e3:=hZ h2
 simp only[e3]
 have p2:=Lib.half_mul_le (a:=a % 4294967296) (b:=b/4294967296) (by omega) (by omega)
 have e4:a % 4294967296*(b/4294967296) % 18446744073709551616=a % 4294967296*(b/4294967296):=hZ (by omega)
 have e5:∀t:Nat,t % 4294967296 % 18446744073709551616=t % 4294967296:=fun t=>hZ (by omega)
 simp only[e4,e5]
 have e6:=hZ h3
 simp only[e6]
 have p3:=Lib.half_mul_le (a:=a/4294967296) (b:=b/4294967296) (by omega) (by omega)
 have e7:a/4294967296*(b/4294967296) % 18446744073709551616=a/4294967296*(b/4294967296):=hZ (by omega)
 simp only[e7]
 have hq:a*b/18446744073709551616<18446744073709551616:=by
  have:=Nat.mul_le_mul (show a≤18446744073709551615 by omega) (show b≤18446744073709551615 by omega)
  omega
 have e8:(a/4294967296*(b/4294967296)+(a/4294967296*(b % 4294967296)+a % 4294967296*(b % 4294967296)/4294967296)/4294967296) % 18446744073709551616=a/4294967296*(b/4294967296)+(a/4294967296*(b % 4294967296)+a % 4294967296*(b % 4294967296)/4294967296)/4294967296:=hZ (by omega)
 simp only[e8,h4]
 rw[hZ hq]
 rfl
theorem aNZ (n:Int):aGY n=some (lof n,()):=by
 unfold aGY lof
 cases decide (n> -4611686018427387904) <;> rfl
theorem aNS (n:Int):aGR n=some (eZ n,()):=by
 unfold aGR eZ
 cases decide (n<0) <;> rfl
theorem aNU (a b:Sure) (r) (h:yC a b=some r):aGS a b=some r:=by
 rw[←h]
 unfold aGS yC aAv
 cases a.2.1 <;> cases b.2.1 <;> rfl
theorem aGQ (n:Int):inU (eZ n)=true:=by
 unfold eZ inU
 cases decide (n<0) <;> simp only[aA,aB,aC,aQ,IntKind.wrap_u64] <;> omega
theorem aNQ (a b:Sure) (r) (h:yB a b=some r):aGP a b=some r:=by
 rw[←h]
 have hm:uJ (eZ a.1) (eZ b.1)=some (eZ a.1*eZ b.1/18446744073709551616,eZ a.1*eZ b.1 % 18446744073709551616,()):=by
  unfold uJ;rw[aGQ,aGQ];rfl
 unfold aGP yB zO
 rw[hm]
 generalize eZ a.1*eZ b.1/18446744073709551616=u
 generalize eZ a.1*eZ b.1 % 18446744073709551616=v
 cases a.2.1 <;> cases b.2.1 <;> simp only[bA,cD,aH,aBL,zF,aA,aB,aJ]
 by_cases hu:u=0
 ·have:(u !=0)=false:=by simp[hu]
  simp only[hu,ne_eq,not_true_eq_false,bG,kZ]
  cases decide (v≥4611686018427387904) <;> rfl
 ·have:(u !=0)=true:=by simp[hu]
  simp only[this,hu,ne_eq,not_false_eq_true,aM,sU,aA]
theorem aEx (p:Int×Int):∀(l:List (Int×Int)) (a:Sure),pD (l++[p]) a=aAv (pD l a) (zO (lof p.1) (lof p.2))
 | [],_=>rfl
 | _::l,_=>aEx p l _
theorem aN5 (q:Iq) (v:List Int) (r) (h:uV q v=some r):∃k,aG4 k q v=some r:=by
 unfold uV at h
 cases hb:okL q.1 <;> simp only[hb,aA,aB] at h
 ·cases h
 injection h with h
 subst h
 have hl:=gZ hb
 refine⟨q.1.length+1,?_⟩
 unfold aG4 oJ
 by_cases he:q.1.length=v.length
 ·have e1:((q.1.length:Int) !=(v.length:Int))=false:=by rw[he];simp
  have e2:decide (q.1.length≠v.length)=false:=by simp[he]
  simp only[e1,e2,aB]
  have:=oA (L:=aAS q v) (n:=q.1.length) (st:=fun k=>((k:Int),pD ((q.1.zip v).take k) (lof 0),())) (fin:=some (aDh q.2.1 (pD (q.1.zip v) (lof 0))))
   (fun k rec hk=>by
    have hv:k<v.length:=by omega
    have hz:(q.1.zip v)[k]? =some (q.1.getD k 0,v.getD k 0):=by
     rw[aV (show k<(q.1.zip v).length by rw[List.length_zip];omega)]
     simp[hk,hv]
    rw[aAS]
    simp only[dlt hk,dlt hv,dge,aH,aA,aU,bJ hk (show _≤lenMax by simp only[lenMax];omega),yB,yC,aJ]
    rw[qK,hz]
    show _=rec (_,pD ((q.1.zip v).take k++[(q.1.getD k 0,v.getD k 0)]) (lof 0),())
    rw[aEx])
   (fun rec=>by
    have:(q.1.zip v).take q.1.length=q.1.zip v:=List.take_of_length_le (by rw[List.length_zip];omega)
    rw[aAS]
    simp only[bQ,aB,this,aDh]
    cases (pD (q.1.zip v) (lof 0)).2.1 <;> rfl) (q.1.length+1) (by omega)
  exact this
 ·have e1:((q.1.length:Int) !=(v.length:Int))=true:=by simp;omega
  have e2:decide (q.1.length≠v.length)=true:=by simp[he]
  simp only[e1,e2,aA]
end Go.Pli

namespace Go.Pli
open Go Go.PM
theorem aMJ (l:List (List Sh)) (f pc:Int) (r) (h:nW l f pc=some r):aFV l f pc=some r:=by
 unfold nW at h
 cases hb:decide (0≤f)&&decide (0≤pc) <;> simp only[hb,aA,aB] at h
 ·cases h
 injection h with h
 subst h
 simp only[aC,aQ] at hb
 unfold aFV dB
 by_cases h1:f≥(l.length:Int)
 ·have e:l.getD f.toNat []=[]:=gU (by omega)
  simp only[h1,aM,aA,e]
  rfl
 ·have h1':f<(l.length:Int):=by omega
  simp only[h1,h1',hb.1,aM,bG,aH,aA,aB]
  by_cases h2:pc≥((l.getD f.toNat []).length:Int)
  ·have e:(l.getD f.toNat []).getD pc.toNat zSh=zSh:=gU (by omega)
   simp only[h2,aM,aA,e]
  ·have h2':pc<((l.getD f.toNat []).length:Int):=by omega
   simp only[h2,h2',hb.2,aM,bG,aH,aA,aB]
theorem aM0 (m:Im) (i:Ins) (r) (h:iT m i=some r):∃k,aF5 k m i=some r:=by
 unfold iT at h
 cases hi:bX m <;> simp only[hi,aA,aB] at h
 ·cases h
 injection h with h
 subst h
 have htl:=wN hi i
 have h12:=(dG hi).methods
 have hfl:=aA9 hi i.2.1
 have ht:oO m i=some (cN m i,()):=by unfold oO;rw[hi];rfl
 refine⟨1001,?_⟩
 have hc:vL m i.2.1=some (qY m i.2.1,()):=by unfold vL;rw[hi];rfl
 unfold aF5 jU
 rw[hc,ht]
 cases i.1==22 <;> cases i.1==23 <;> simp only[aA,aB,aJ]
 have:=oA (L:=aAC m (cN m i,())) (n:=(cN m i).length) (st:=fun k=>(kH ((((cN m i).take k).filter (inM m)).map (eX m)),(k:Int),())) (fin:=some (kH (((cN m i).filter (inM m)).map (eX m)),()))
  (fun k rec hk=>by
   have hw:=bJ hk (show _≤lenMax by simp only[lenMax];omega)
   have hx:(cN m i)[k]? =some (cN m i)[k]:=aV hk
   have fold:∀g:Int,m.2.2.2.1.getD g.toNat zMt=aD m g:=fun _=>rfl
   rw[aAC]
   simp only[dlt hk,dge,aH,aA,aU,getD_some hx,hw,fold]
   rw[qK,hx]
   generalize (cN m i)[k]=g
   by_cases h0:g≥0
   ·by_cases h1:g<(m.2.2.2.1.length:Int)
    ·have hin:inM m g=true:=cC.2 ⟨h0,h1⟩
     have h0':0≤g:=h0
     simp only[h0,h1,aM,aH,aA,Option.toList_some,List.filter_append,List.filter_cons,List.filter_nil,hin,cJ,jD,dK,List.map_nil]
     unfold kH
     rw[List.foldl_append]
     rfl
    ·have hin:inM m g=false:=by
      cases hh:inM m g
      ·rfl
      ·exact absurd (cC.1 hh).2 h1
     simp only[h0,h1,aM,bG,aA,aB,Option.toList_some,List.filter_append,List.filter_cons,List.filter_nil,hin,jZ,cG,bU]
   ·have hin:inM m g=false:=by
     cases hh:inM m g
     ·rfl
     ·exact absurd (cC.1 hh).1 h0
    simp only[h0,bG,aB,Option.toList_some,List.filter_append,List.filter_cons,List.filter_nil,hin,jZ,cG,bU])
  (fun rec=>by
   rw[aAC]
   simp only[bQ,aB,iA]) 1001 (by omega)
 exact this
theorem aCp {n a b c:Int} (h0:0≤n) (h1:n<1000000) (ha:a<n) (hb:b<n):pJ n a b c=some (eM n a b c,()):=by
 unfold pJ
 rw[aI h0,aI ha,aI hb,aJg (show n.toNat<1000000 by omega)]
 rfl
theorem aML (n a b c:Int) (r) (h:pJ n a b c=some r):aFY n a b c=some r:=by
 unfold pJ at h
 cases hh:decide (0≤n)&&(Nat.blt n.toNat 1000000&&(decide (a<n)&&decide (b<n))) <;> simp only[hh,aA,aB] at h
 ·cases h
 injection h with h
 subst h
 simp only[aC,aQ,fF] at hh
 obtain⟨n0,n1,an,bn⟩:=hh
 have e0:decide (n≤n)=true:=aI (by omega)
 have e1:decide (n<(rowMax:Int))=true:=aI (by simp only[rowMax];omega)
 have en:((n.toNat:Nat):Int)=n:=by omega
 unfold aFY eM aBC
 simp only[n0,e0,e1,aM,aH,aA,dE,sS,en,an,bn,aBL]
 by_cases ha:a≥0 <;> by_cases hb:b≥0
 ·have ha':0≤a:=ha
  have hb':0≤b:=hb
  simp only[ha,hb,aM,aA]
  rfl
 ·have ha':0≤a:=ha
  simp only[ha,hb,aM,bG,aA,aB]
  rfl
 ·have hb':0≤b:=hb
  simp only[ha,hb,aM,bG,aA,aB]
 ·simp only[ha,hb,bG,aB]
theorem aOs (l:List Int) (c:Unit) (h:aOv l c):∃k,aOu k l c=some (aAU l c,()):=by
 refine⟨l.length+1,aCV (st:=fun k=>((k:Int),())) (p:=uI) (fun k x rec hk hlt=>?_) (fun rec=>?_) _ (gX _)⟩
 ·unfold aDd
  simp only[dlt hlt,dge,aH,aA,aU,getD_some hk,bJ hlt h.1.1]
  rfl
 ·unfold aDd
  simp only[bQ,aB]
theorem aPY (l:List Int) (c:Unit) (_:aP0 l c):aIs l c=some (yS l c,()):=by
 unfold aIs aAU yS
 rw[aAW]
theorem aEY (m:Im) (l:List (List Sh)) (f pc:Int):(mI m l f pc).length≤3:=by
 have h2:(aN m f pc (dB l f pc).2.1).2.1.length≤2:=wS ..
 unfold mI
 cases !(dB l f pc).1 <;> simp only[aA,aB]
 ·cases (aN m f pc (dB l f pc).2.1).2.2.1 !=0 <;> simp only[aA,aB]
  ·rw[aW,qM]
   cases decide ((aN m f pc (dB l f pc).2.1).2.1.length=0) <;> simp only[aA,aB,aF,bM] <;> omega
  ·simp
 ·simp
theorem aEN {l:List (List Sh)} (h:fX l=true) (f pc:Int):okL (dB l f pc).2.1=true:=by
 unfold dB
 by_cases h1:f.toNat<l.length
 ·obtain⟨-,h2⟩:=aNh h h1
  by_cases h3:pc.toNat<(l.getD f.toNat []).length
  ·rw[getD_some (aV h3)]
   exact fK (h2 _ (eH h3))
  ·rw[gU (by omega)];rfl
 ·rw[gU (show l.length≤f.toNat by omega)];rfl
theorem aLs {m:Im} (hs:aL m=true) {f:Int} (hf:inM m f=true) {k:Nat} (hk:k<codeN m f) {S:St4} (h2:S.2.1.length≤2) (hto:∀to∈S.2.1,0≤to∧to<(codeN m f:Int)) {o:List Iq} {rec:(List Iq×Int×Unit)→Option (List Iq×Unit)} {F:Nat} (hF:1000<F) (pre:List Iq) (hpre:pre.length<1000000):
  aE (xP m f S (o,(k:Int),()) rec) F (pre,(0:Int),())=rec (pre++S.2.1.map (fun to=>eM (codeN m f:Int) (k:Int) to (IntKind.i64.wrap (0 - jU m (aG m f (k:Int))))),((k+1:Nat):Int),()):=by
 have hc:=fH hs hf
 have hw:=bJ hk (show _≤lenMax by simp only[lenMax];omega)
 have fold:∀g:Int,m.2.2.2.1.getD g.toNat zMt=aD m g:=fun _=>rfl
 have fold3:(aD m f).2.2.2.1.length=codeN m f:=rfl
 have fold2:(aD m f).2.2.2.1.getD k cM=aG m f (k:Int):=rfl
 have hcost:iT m (aG m f (k:Int))=some (jU m (aG m f (k:Int)),()):=by unfold iT;rw[(dQ hs).1];rfl
 generalize hR:S.2.1.map (fun to=>eM (codeN m f:Int) (k:Int) to (IntKind.i64.wrap (0 - jU m (aG m f (k:Int)))))=R
 have hRl:R.length=S.2.1.length:=by rw[←hR,qM]
 have:=oA (L:=xP m f S (o,(k:Int),()) rec) (n:=S.2.1.length) (st:=fun j=>(pre++R.take j,(j:Int),()))
  (fin:=rec (pre++R,((k+1:Nat):Int),()))
  (fun j rec2 hj=>by
   have hx:S.2.1[j]? =some S.2.1[j]:=aV hj
   obtain⟨t0,t1⟩:=hto _ (eH hj)
   have hxR:R[j]? =some (eM (codeN m f:Int) (k:Int) S.2.1[j] (IntKind.i64.wrap (0 - jU m (aG m f (k:Int))))):=by
    rw[←hR,kX,hx]
    rfl
   have hroom:decide ((pre++R.take j).length+(0+1)<rowMax)=true:=lG (by rw[aW,bR];omega)
   rw[xP]
   simp only[fold,fold3,aU,fold2,dlt hj,dge,aH,aA,getD_some hx]
   rw[hcost,aJ,aCp (by omega) (by omega) (by omega) (by omega),aJ]
   simp only[aF,bM,hroom,aA,bJ hj (show _≤lenMax by simp only[lenMax];omega)]
   rw[qK,hxR,cA]
   rfl)
  (fun rec2=>by
   rw[xP]
   simp only[bQ,aB,hw]
   rw[List.take_of_length_le (by omega)]) F (by omega)
 rw[List.take_zero,bU] at this
 exact this
theorem aMK (m:Im) (l:List (List Sh)) (f:Int) (r) (h:rK m l f=some r):∃k,aFX k m l f=some r:=by
 unfold rK at h
 cases hb:aL m&&fX l <;> simp only[hb,aA,aB] at h
 ·cases h
 injection h with h
 subst h
 simp only[aC] at hb
 obtain⟨hs,hl⟩:=hb
 obtain⟨F,hF⟩:∃F:Nat,1000<F:=⟨1001,by omega⟩
 refine⟨F,?_⟩
 have fold:∀g:Int,m.2.2.2.1.getD g.toNat zMt=aD m g:=fun _=>rfl
 have fold3:(aD m f).2.2.2.1.length=codeN m f:=rfl
 have fold4:(aD m f).2.2.2.2.2.1=eX m f:=rfl
 unfold aFX lE
 simp only[fold,fold3,fold4]
 cases hf:inM m f
 ·simp only[aB]
  have:¬(0≤f∧f<(m.2.2.2.1.length:Int)):=fun hh=>by rw[cC.2 hh] at hf;cases hf
  by_cases h0:f<0
  ·simp only[h0,aM,aA]
  ·have h1:f≥(m.2.2.2.1.length:Int):=by omega
   simp only[h0,h1,aM,bG,aA,aB]
 obtain⟨f0,f1⟩:=cC.1 hf
 have f2:¬f<0:=by omega
 have f3:¬f≥(m.2.2.2.1.length:Int):=by omega
 have hc:=fH hs hf
 have hc0:((codeN m f:Int)==0)=false:=qG.2 (by omega)
 rw[bO f2,aB,bO f3,aB,aI f0,aI f1,aH,aA,hc0,aB,aA,aA,aA]
 rw[aCp (by omega) (by omega) (by omega) (by omega),aJ]
 have:=yD (L:=aAr m l f F) (n:=codeN m f) (B:=3) (st:=fun k out=>(eM (codeN m f:Int) (-1) 0 (eX m f)::out,(k:Int),())) (f:=fun k=>mI m l f (k:Int)) (fin:=fun out=>some (eM (codeN m f:Int) (-1) 0 (eX m f)::out,()))
  (fun k _=>aEY ..)
  (fun k out rec hk ho=>by
   have hw:=bJ hk (show _≤lenMax by simp only[lenMax];omega)
   have hp:nW l f (k:Int)=some (dB l f (k:Int),()):=by unfold nW;simp only[f0,dge,aM,aH,aA]
   have hst:oK m f (k:Int) (dB l f (k:Int)).2.1=some (aN m f (k:Int) (dB l f (k:Int)).2.1):=by unfold oK;rw[hs,aEN hl];rfl
   have fold2:(aD m f).2.2.2.1.getD k cM=aG m f (k:Int):=rfl
   have d1:decide ((k:Int)<(((aD m f).2.2.2.1.length:Nat):Int))=true:=dlt hk
   rw[aAr]
   dsimp only
   rw[fold,d1,aA,dge,aBL,aA,hp,aJ]
   dsimp only
   cases h1:(dB l f (k:Int)).1
   case false=>
    rw[cD,aA,hw]
    simp only[mI,h1,cD,aA,bU]
   rw[bA,aB,hst,aJ]
   have h2:(aN m f (k:Int) (dB l f (k:Int)).2.1).2.1.length≤2:=wS ..
   cases h3:(aN m f (k:Int) (dB l f (k:Int)).2.1).2.2.1 !=0
   case true=>
    rw[aA,hw]
    simp only[mI,h1,h3,bA,aB,aA,bU]
   obtain⟨-,-,-,hto⟩:=nQ hs (f:=f) (pc:=(k:Int)) (s:=(dB l f (k:Int)).2.1) (by simpa using h3)
   rw[aB]
   have hrule:mI m l f (k:Int)=(bif decide ((aN m f (k:Int) (dB l f (k:Int)).2.1).2.1.length=0) then[eM (codeN m f:Int) (k:Int) (-1) 0] else[])++(aN m f (k:Int) (dB l f (k:Int)).2.1).2.1.map fun to=>eM (codeN m f:Int) (k:Int) to (IntKind.i64.wrap (0 - jU m (aG m f (k:Int)))):=by simp only[mI,h1,h3,bA,aB]
   rw[hrule]
   generalize hS:aN m f (k:Int) (dB l f (k:Int)).2.1=S at h2 h3 hto
   have inner:=aLs hs hf hk h2 hto (o:=eM (codeN m f:Int) (-1) 0 (eX m f)::out) (rec:=rec) hF
   by_cases h0:S.2.1.length=0
   ·have e1:((S.2.1.length:Int)==0)=true:=by rw[h0];rfl
    have e2:decide (S.2.1.length=0)=true:=aI h0
    have hroom:decide ((eM (codeN m f:Int) (-1) 0 (eX m f)::out).length+(0+1)<rowMax)=true:=lG (by simp only[aF];omega)
    rw[e1,e2,aA,aA]
    rw[fold3,aCp (by omega) (by omega) (by omega) (by omega),aJ]
    have e3:∀q:Iq,([q]:List Iq).length=0+1:=fun _=>rfl
    rw[e3,hroom,aA,aJ]
    refine (inner (eM (codeN m f:Int) (-1) 0 (eX m f)::out++[eM (codeN m f:Int) (k:Int) (-1) 0]) (by rw[aW,aF,aF,bM];omega)).trans ?_
    rw[cA,qN]
   ·have e1:((S.2.1.length:Int)==0)=false:=qG.2 (by omega)
    have e2:decide (S.2.1.length=0)=false:=bO h0
    rw[e1,e2,aB,aB,aJ]
    refine (inner (eM (codeN m f:Int) (-1) 0 (eX m f)::out) (by rw[aF];omega)).trans ?_
    rw[qN,oX])
  (fun out rec _=>by
   rw[aAr]
   simp only[fold,fold3,bQ,aB,idL]) F (by omega)
 exact this
theorem aLt {m:Im} (hs:aL m=true) (l:List (List Sh)) (f:Int):(lE m l f).length≤1000:=by
 unfold lE
 cases hf:inM m f <;> simp only[aA,aB]
 ·simp
 have hc:=fH hs hf
 have key:∀n:Nat,(((List.range n).map fun k:Nat=>mI m l f (k:Int)).flatten).length≤3*n:=by
  intro n
  induction n with
  | zero=>simp
  | succ n ih=>
   have:=aEY m l f (n:Int)
   rw[List.range_succ,jD,kY,aW]
   simp only[dK,List.map_nil,gK,jE,bU]
   omega
 have:=key (codeN m f)
 rw[aF]
 omega
theorem aLu {m:Im} (l:List (List Sh)) (f:Int):∀q∈lE m l f,q.1.length=codeN m f:=by
 have hr:∀a b c:Int,(eM (codeN m f:Int) a b c).1.length=codeN m f:=by
  intro a b c
  unfold eM aBC
  cases decide (a≥0) <;> cases decide (b≥0) <;> simp
 intro q hq
 unfold lE at hq
 cases hf:inM m f <;> simp only[hf,aA,aB] at hq
 ·cases hq
 rcases bV.1 hq with rfl | hq
 ·exact hr ..
 simp only[oY,gF] at hq
 obtain⟨x,⟨k,-,rfl⟩,hq⟩:=hq
 unfold mI at hq
 cases h1: !(dB l f (k:Int)).1 <;> simp only[h1,aA,aB] at hq
 ·cases h2:(aN m f (k:Int) (dB l f (k:Int)).2.1).2.2.1 !=0 <;> simp only[h2,aA,aB] at hq
  ·rw[cP] at hq
   rcases hq with hq | hq
   ·cases h3:decide ((aN m f (k:Int) (dB l f (k:Int)).2.1).2.1.length=0) <;> simp only[h3,aA,aB] at hq
    ·cases hq
    ·rw[dY] at hq;subst hq;exact hr ..
   ·obtain⟨t,-,rfl⟩:=gF.1 hq
    exact hr ..
  ·cases hq
 ·cases hq
theorem aF6 {m:Im} {l:List (List Sh)} (hs:aL m=true) (hl:fX l=true):∀(j k F:Nat),k+j=m.2.2.2.1.length→j<F→aE (uG m l 1001) F ((k:Int),())=some (xQ m l ((List.range' k j).map fun n:Nat=>(n:Int)))
 | 0,k,F,hk,hF=>by
  obtain⟨F,rfl⟩:∃n,F=n+1:=⟨F - 1,by omega⟩
  have:k=m.2.2.2.1.length:=by omega
  subst this
  rw[aX,uG]
  simp only[bQ,aB]
  rfl
 | j+1,k,F,hk,hF=>by
  obtain⟨F,rfl⟩:∃n,F=n+1:=⟨F - 1,by omega⟩
  have h12:=(dG (dQ hs).1).methods
  have hlt:k<m.2.2.2.1.length:=by omega
  have hin:inM m (k:Int)=true:=cC.2 ⟨by omega,by omega⟩
  have hc:=fH hs hin
  have hw:=bJ hlt (show _≤lenMax by simp only[lenMax];omega)
  have fold:∀g:Nat,m.2.2.2.1.getD g zMt=aD m (g:Int):=fun _=>rfl
  have fold4:(aD m (k:Int)).2.2.2.2.2.2.1=iS m (k:Int):=rfl
  have hr:rK m l (k:Int)=some (lE m l (k:Int),()):=by unfold rK;rw[hs,hl];rfl
  have hrl:=aLt hs l (k:Int)
  rw[aX,uG]
  simp only[dlt hlt,dge,aH,aA,hr,aJ]
  have key:=lN (L:=aAD m ((k:Int),()) (aE (uG m l 1001) F) (lE m l (k:Int),())) (xs:=lE m l (k:Int)) (st:=fun j=>((j:Int),())) (p:=aA1 m (k:Int)) (ex:=some ((k:Int),6,())) (fin:=bif (iS m (k:Int)).any uI then some ((k:Int),6,()) else aE (uG m l 1001) F (((k+1:Nat):Int),()))
   (fun j q rec hj hjl=>by
    have hh:uV q (iS m (k:Int))=some (oJ q (iS m (k:Int))):=by
     have:=aLu (m:=m) l (k:Int) q (jY hj)
     unfold uV;rw[fK (by omega)];rfl
    rw[aAD]
    simp only[dlt hjl,dge,aH,aA,aU,getD_some hj,fold,fold4,hh,aJ,bJ hjl (show _≤lenMax by simp only[lenMax];omega),aA1]
    by_cases he:(oJ q (iS m (k:Int))).2.1=0
    ·have:((oJ q (iS m (k:Int))).2.1 !=0)=false:=by simp[he]
     simp only[he,aM,eC]
     cases (oJ q (iS m (k:Int))).1 <;> rfl
    ·have:((oJ q (iS m (k:Int))).2.1 !=0)=true:=by simp[he]
     simp only[this,he,bG,lA,aA,aB])
   (fun rec=>by
    rw[aAD]
    simp only[bQ,aB,aU,fold,fold4,yS,hw]) 1001 (by omega)
  refine key.trans ?_
  rw[List.range'_succ,dK,xQ]
  cases (lE m l (k:Int)).all (aA1 m (k:Int)) <;> simp only[aA,aB]
  cases (iS m (k:Int)).any uI <;> simp only[aA,aB]
  exact aF6 hs hl j (k+1) F (by omega) (by omega)
theorem aM1 (m:Im) (l:List (List Sh)) (r) (h:nX m l=some r):∃k,aF7 k m l=some r:=by
 unfold nX at h
 cases hb:aL m&&fX l <;> simp only[hb,aA,aB] at h
 ·cases h
 injection h with h
 subst h
 simp only[aC] at hb
 have h12:=(dG (dQ hb.1).1).methods
 refine⟨1001,?_⟩
 unfold aF7
 rw[show ints m.2.2.2.1.length=(List.range' 0 m.2.2.2.1.length).map fun n:Nat=>(n:Int) by rw[←List.range_eq_range'];rfl]
 exact aF6 hb.1 hb.2 m.2.2.2.1.length 0 1001 (by omega) (by omega)
theorem aMG (m:Im) (i:Ins) (r) (h:rI m i=some r):∃k,aFO k m i=some r:=by
 unfold rI at h
 cases hb:bX m&&(cN m i).all (inM m) <;> simp only[hb,aA,aB] at h
 ·cases h
 injection h with h
 subst h
 simp only[aC,bI] at hb
 obtain⟨hi,hin⟩:=hb
 have htl:=wN hi i
 have h12:=(dG hi).methods
 have hfl:=aA9 hi i.2.1
 have ht:tO m i=some (cN m i,()):=by unfold tO;rw[hi];rfl
 have hc:iE m i.2.1=some (dS m i.2.1,()):=by unfold iE;rw[hi];rfl
 refine⟨1001,?_⟩
 unfold aFO uA
 rw[hc,ht]
 cases i.1==22 <;> cases i.1==23 <;> simp only[aA,aB,aJ]
 ·have:=oA (L:=aAq m (cN m i,())) (n:=(cN m i).length) (st:=fun k=>(kH (((cN m i).take k).map (eX m)),(k:Int),())) (fin:=some (kH ((cN m i).map (eX m)),()))
   (fun k rec hk=>by
    have hw:=bJ hk (show _≤lenMax by simp only[lenMax];omega)
    have hx:(cN m i)[k]? =some (cN m i)[k]:=aV hk
    obtain⟨g0,g1⟩:=cC.1 (hin _ (eH hk))
    have fold:∀g:Int,m.2.2.2.1.getD g.toNat zMt=aD m g:=fun _=>rfl
    have fold4:∀g,(aD m g).2.2.2.2.2.1=eX m g:=fun _=>rfl
    rw[aAq]
    simp only[dlt hk,dge,aH,aA,aU,getD_some hx,hw,fold,fold4,g0,g1,aM]
    rw[qK,hx]
    generalize (cN m i)[k]=g
    have hm:kH (((cN m i).take k++(some g).toList).map (eX m))=max (kH (((cN m i).take k).map (eX m))) (eX m g):=by
     unfold kH
     rw[jD,List.foldl_append]
     rfl
    rw[hm]
    by_cases hgt:eX m g>kH (((cN m i).take k).map (eX m))
    ·rw[aI hgt,Int.max_eq_right (by omega)];rfl
    ·rw[bO hgt,Int.max_eq_left (by omega)];rfl)
   (fun rec=>by
    rw[aAq]
    simp only[bQ,aB,iA]) 1001 (by omega)
  exact this
 ·unfold qY
  rw[cS (by omega) (by omega)]
  simp
 ·unfold qY
  rw[cS (by omega) (by omega)]
  simp
end Go.Pli

/- All of layer 13 to 16's functions. -/
