/- Sums: the printed functions come to what is told in plain Lean. -/
import Derived.Test.YtcofionghgmldaaGreatPliL11
import Derived.Lib.Mul64
namespace Go.Pli
open Go Go.PM
theorem aK7 (n:Nat):IntKind.u64.wrap (n:Int)=((n % 18446744073709551616:Nat):Int):=by
 rw[IntKind.wrap_u64];omega
theorem aQ3 (n:Nat):(n:Int).fdiv 4294967296=((n/4294967296:Nat):Int):=by
 rw[Int.fdiv_eq_ediv_of_nonneg _ (by omega)];rfl
theorem aPw (n:Nat):(((BitVec.ofInt 64 (n:Int)&&&BitVec.ofInt 64 4294967295).toNat:Nat):Int)=((n % 4294967296:Nat):Int):=by
 have h1:(BitVec.ofInt 64 (n:Int)).toNat=n % 18446744073709551616:=by
  rw[BitVec.toNat_ofInt];omega
 have h2:(BitVec.ofInt 64 4294967295).toNat=2 ^ 32 - 1:=by decide
 rw[BitVec.toNat_and,h1,h2,Nat.and_two_pow_sub_one_eq_mod]
 congr 1
 omega
theorem aO2 (x y:Int) (r) (h:vT x y=some r):aHE x y=some r:=by
 unfold vT at h
 cases hb:inU x&&inU y <;> simp only[hb,aA,aB] at h
 ·cases h
 injection h with h
 subst h
 simp only[inU,aC,aP] at hb
 obtain⟨⟨x0,x1⟩,y0,y1⟩:=hb
 obtain⟨a,rfl⟩:∃a:Nat,x=a:=⟨x.toNat,by omega⟩
 obtain⟨b,rfl⟩:∃b:Nat,y=b:=⟨y.toNat,by omega⟩
 have ha:a<18446744073709551616:=by omega
 have hb:b<18446744073709551616:=by omega
 obtain⟨h1,h2,h3,h4⟩:=Lib.mul64_hi a b ha hb
 have ma:a % 4294967296 % 18446744073709551616=a % 4294967296:=iU (by omega)
 have mb:b % 4294967296 % 18446744073709551616=b % 4294967296:=iU (by omega)
 unfold aHE
 simp only[aQ3,aPw,aK7,←Int.natCast_mul,←Int.natCast_add,ma,mb]
 have e1:a % 4294967296*(b % 4294967296) % 18446744073709551616=a % 4294967296*(b % 4294967296):=iU h1
 simp only[e1]
 have p1:=Lib.half_mul_le (a:=a/4294967296) (b:=b % 4294967296) (by omega) (by omega)
 have e2:a/4294967296*(b % 4294967296) % 18446744073709551616=a/4294967296*(b % 4294967296):=iU (by omega)
 simp only[e2]
 have e3:=iU h2
 simp only[e3]
 have p2:=Lib.half_mul_le (a:=a % 4294967296) (b:=b/4294967296) (by omega) (by omega)
 have e4:a % 4294967296*(b/4294967296) % 18446744073709551616=a % 4294967296*(b/4294967296):=iU (by omega)
 have e5:∀t:Nat,t % 4294967296 % 18446744073709551616=t % 4294967296:=fun t=>iU (by omega)
 simp only[e4,e5]
 have e6:=iU h3
 simp only[e6]
 have p3:=Lib.half_mul_le (a:=a/4294967296) (b:=b/4294967296) (by omega) (by omega)
 have e7:a/4294967296*(b/4294967296) % 18446744073709551616=a/4294967296*(b/4294967296):=iU (by omega)
 simp only[e7]
 have hq:a*b/18446744073709551616<18446744073709551616:=by
  have:=Nat.mul_le_mul (show a≤18446744073709551615 by omega) (show b≤18446744073709551615 by omega)
  omega
 have e8:(a/4294967296*(b/4294967296)+(a/4294967296*(b % 4294967296)+a % 4294967296*(b % 4294967296)/4294967296)/4294967296) % 18446744073709551616=a/4294967296*(b/4294967296)+(a/4294967296*(b % 4294967296)+a % 4294967296*(b % 4294967296)/4294967296)/4294967296:=iU (by omega)
 simp only[e8,h4]
 rw[iU hq]
 rfl
theorem aPG (n:Int):aIe n=some (lof n,()):=by
 unfold aIe lof
 cases decide (n> -4611686018427387904) <;> rfl
theorem aPz (n:Int):aH7 n=some (fQ n,()):=by
 unfold aH7 fQ
 cases decide (n<0) <;> rfl
theorem aPB (a b:Sure) (r) (h:zH a b=some r):aH8 a b=some r:=by
 rw[←h]
 unfold aH8 zH aBb
 cases a.2.1 <;> cases b.2.1 <;> rfl
theorem aH6 (n:Int):inU (fQ n)=true:=by
 unfold fQ inU
 cases decide (n<0) <;> simp only[aA,aB,aC,aP,IntKind.wrap_u64] <;> omega
theorem aPx (a b:Sure) (r) (h:zG a b=some r):aH4 a b=some r:=by
 rw[←h]
 have hm:vT (fQ a.1) (fQ b.1)=some (fQ a.1*fQ b.1/18446744073709551616,fQ a.1*fQ b.1 % 18446744073709551616,()):=by
  unfold vT;rw[aH6,aH6];rfl
 unfold aH4 zG aAw
 rw[hm]
 generalize fQ a.1*fQ b.1/18446744073709551616=u
 generalize fQ a.1*fQ b.1 % 18446744073709551616=v
 cases a.2.1 <;> cases b.2.1 <;> simp only[bA,cJ,aH,uF,aAl,aA,aB,aJ]
 by_cases hu:u=0
 ·have:(u !=0)=false:=by simp[hu]
  simp only[hu,ne_eq,not_true_eq_false,bQ,mB]
  cases decide (v≥4611686018427387904) <;> rfl
 ·have:(u !=0)=true:=by simp[hu]
  simp only[this,hu,ne_eq,not_false_eq_true,aM,uE,aA]
theorem aFw (p:Int×Int):∀(l:List (Int×Int)) (a:Sure),qK (l++[p]) a=aBb (qK l a) (aAw (lof p.1) (lof p.2))
 | [],_=>rfl
 | _::l,_=>aFw p l _
theorem aPM (q:Iq) (v:List Int) (r) (h:wF q v=some r):∃k,aIk k q v=some r:=by
 unfold wF at h
 cases hb:okL q.1 <;> simp only[hb,aA,aB] at h
 ·cases h
 injection h with h
 subst h
 have hl:=iP hb
 refine⟨q.1.length+1,?_⟩
 unfold aIk pQ
 by_cases he:q.1.length=v.length
 ·have e1:((q.1.length:Int) !=(v.length:Int))=false:=by rw[he];simp
  have e2:decide (q.1.length≠v.length)=false:=by simp[he]
  simp only[e1,e2,aB]
  have:=nU (L:=aBy q v) (n:=q.1.length) (st:=fun k=>((k:Int),qK ((q.1.zip v).take k) (lof 0),())) (fin:=some (aD9 q.2.1 (qK (q.1.zip v) (lof 0))))
   (fun k rec hk=>by
    have hv:k<v.length:=by omega
    have hz:(q.1.zip v)[k]? =some (q.1.getD k 0,v.getD k 0):=by
     rw[aT (show k<(q.1.zip v).length by rw[List.length_zip];omega)]
     simp[hk,hv]
    rw[aBy]
    simp only[dlt hk,dlt hv,dge,aH,aA,aR,bB hk (show _≤lenMax by simp only[lenMax];omega),zG,zH,aJ]
    rw[rS,hz]
    show _=rec (_,qK ((q.1.zip v).take k++[(q.1.getD k 0,v.getD k 0)]) (lof 0),())
    rw[aFw])
   (fun rec=>by
    have:(q.1.zip v).take q.1.length=q.1.zip v:=List.take_of_length_le (by rw[List.length_zip];omega)
    rw[aBy]
    simp only[bH,aB,this,aD9]
    cases (qK (q.1.zip v) (lof 0)).2.1 <;> rfl) (q.1.length+1) (by omega)
  exact this
 ·have e1:((q.1.length:Int) !=(v.length:Int))=true:=by simp;omega
  have e2:decide (q.1.length≠v.length)=true:=by simp[he]
  simp only[e1,e2,aA]
end Go.Pli

namespace Go.Pli
open Go Go.PM
theorem aOd (l:List (List Sh)) (f pc:Int) (r) (h:pC l f pc=some r):aG5 l f pc=some r:=by
 unfold pC at h
 cases hb:decide (0≤f)&&decide (0≤pc) <;> simp only[hb,aA,aB] at h
 ·cases h
 injection h with h
 subst h
 simp only[aC,aP] at hb
 unfold aG5 cE
 by_cases h1:f≥(l.length:Int)
 ·have e:l.getD f.toNat []=[]:=fI (by omega)
  simp only[h1,aM,aA,e]
  rfl
 ·have h1':f<(l.length:Int):=by omega
  simp only[h1,h1',hb.1,aM,bQ,aH,aA,aB]
  by_cases h2:pc≥((l.getD f.toNat []).length:Int)
  ·have e:(l.getD f.toNat []).getD pc.toNat zSh=zSh:=fI (by omega)
   simp only[h2,aM,aA,e]
  ·have h2':pc<((l.getD f.toNat []).length:Int):=by omega
   simp only[h2,h2',hb.2,aM,bQ,aH,aA,aB]
theorem aOv (m:Im) (i:Ins) (r) (h:kN m i=some r):∃k,aHg k m i=some r:=by
 unfold kN at h
 cases hi:bW m <;> simp only[hi,aA,aB] at h
 ·cases h
 injection h with h
 subst h
 have htl:=uP hi i
 have h12:=(cV hi).methods
 have hfl:=aBP hi i.2.1
 have ht:pW m i=some (bK m i,()):=by unfold pW;rw[hi];rfl
 refine⟨1001,?_⟩
 have hc:wV m i.2.1=some (qM m i.2.1,()):=by unfold wV;rw[hi];rfl
 unfold aHg iI
 rw[hc,ht]
 cases i.1==22 <;> cases i.1==23 <;> simp only[aA,aB,aJ]
 have:=nU (L:=aBh m (bK m i,())) (n:=(bK m i).length) (st:=fun k=>(lI ((((bK m i).take k).filter (inM m)).map (eH m)),(k:Int),())) (fin:=some (lI (((bK m i).filter (inM m)).map (eH m)),()))
  (fun k rec hk=>by
   have hw:=bB hk (show _≤lenMax by simp only[lenMax];omega)
   have hx:(bK m i)[k]? =some (bK m i)[k]:=aT hk
   have fold:∀g:Int,m.2.2.2.1.getD g.toNat zMt=aD m g:=fun _=>rfl
   rw[aBh]
   simp only[dlt hk,dge,aH,aA,aR,getD_some hx,hw,fold]
   rw[rS,hx]
   generalize (bK m i)[k]=g
   by_cases h0:g≥0
   ·by_cases h1:g<(m.2.2.2.1.length:Int)
    ·have hin:inM m g=true:=bD.2 ⟨h0,h1⟩
     have h0':0≤g:=h0
     simp only[h0,h1,aM,aH,aA,Option.toList_some,List.filter_append,List.filter_cons,List.filter_nil,hin,cP,kB,dM,List.map_nil]
     unfold lI
     rw[List.foldl_append]
     rfl
    ·have hin:inM m g=false:=by
      cases hh:inM m g
      ·rfl
      ·exact absurd (bD.1 hh).2 h1
     simp only[h0,h1,aM,bQ,aA,aB,Option.toList_some,List.filter_append,List.filter_cons,List.filter_nil,hin,kZ,cL,bZ]
   ·have hin:inM m g=false:=by
     cases hh:inM m g
     ·rfl
     ·exact absurd (bD.1 hh).1 h0
    simp only[h0,bQ,aB,Option.toList_some,List.filter_append,List.filter_cons,List.filter_nil,hin,kZ,cL,bZ])
  (fun rec=>by
   rw[aBh]
   simp only[bH,aB,iA]) 1001 (by omega)
 exact this
theorem aDc {n a b c:Int} (h0:0≤n) (h1:n<1000000) (ha:a<n) (hb:b<n):qR n a b c=some (eX n a b c,()):=by
 unfold qR
 rw[aI h0,aI ha,aI hb,aKE (show n.toNat<1000000 by omega)]
 rfl
theorem aOf (n a b c:Int) (r) (h:qR n a b c=some r):aG8 n a b c=some r:=by
 unfold qR at h
 cases hh:decide (0≤n)&&(Nat.blt n.toNat 1000000&&(decide (a<n)&&decide (b<n))) <;> simp only[hh,aA,aB] at h
 ·cases h
 injection h with h
 subst h
 simp only[aC,aP,fW] at hh
 obtain⟨n0,n1,an,bn⟩:=hh
 have e0:decide (n≤n)=true:=aI (by omega)
 have e1:decide (n<(rowMax:Int))=true:=aI (by simp only[rowMax];omega)
 have en:((n.toNat:Nat):Int)=n:=by omega
 unfold aG8 eX aCh
 simp only[n0,e0,e1,aM,aH,aA,dJ,qE,en,an,bn,uF]
 by_cases ha:a≥0 <;> by_cases hb:b≥0
 ·have ha':0≤a:=ha
  have hb':0≤b:=hb
  simp only[ha,hb,aM,aA]
  rfl
 ·have ha':0≤a:=ha
  simp only[ha,hb,aM,bQ,aA,aB]
  rfl
 ·have hb':0≤b:=hb
  simp only[ha,hb,aM,bQ,aA,aB]
 ·simp only[ha,hb,bQ,aB]
theorem aP8 (l:List Int) (c:Unit) (h:aQb l c):∃k,aQa k l c=some (aBB l c,()):=by
 refine⟨l.length+1,aDO (st:=fun k=>((k:Int),())) (p:=vS) (fun k x rec hk hlt=>?_) (fun rec=>?_) _ (hZ _)⟩
 ·unfold aD5
  simp only[dlt hlt,dge,aH,aA,aR,getD_some hk,bB hlt h.1.1]
  rfl
 ·unfold aD5
  simp only[bH,aB]
theorem aRL (l:List Int) (c:Unit) (_:aRN l c):aJQ l c=some (zW l c,()):=by
 unfold aJQ aBB zW
 rw[aBD]
theorem aFZ (m:Im) (l:List (List Sh)) (f pc:Int):(nK m l f pc).length≤3:=by
 have h2:(aO m f pc (cE l f pc).2.1).2.1.length≤2:=uR ..
 unfold nK
 cases !(cE l f pc).1 <;> simp only[aA,aB]
 ·cases (aO m f pc (cE l f pc).2.1).2.2.1 !=0 <;> simp only[aA,aB]
  ·rw[aX,qF]
   cases decide ((aO m f pc (cE l f pc).2.1).2.1.length=0) <;> simp only[aA,aB,aF,bT] <;> omega
  ·simp
 ·simp
theorem aCN {l:List (List Sh)} (h:fC l=true) (f pc:Int):okL (cE l f pc).2.1=true:=by
 unfold cE
 by_cases h1:f.toNat<l.length
 ·obtain⟨-,h2⟩:=aON h h1
  by_cases h3:pc.toNat<(l.getD f.toNat []).length
  ·rw[getD_some (aT h3)]
   exact fD (h2 _ (dU h3))
  ·rw[fI (by omega)];rfl
 ·rw[fI (show l.length≤f.toNat by omega)];rfl
theorem aMS {m:Im} (hs:aK m=true) {f:Int} (hf:inM m f=true) {k:Nat} (hk:k<codeN m f) {S:St4} (h2:S.2.1.length≤2) (hto:∀to∈S.2.1,0≤to∧to<(codeN m f:Int)) {o:List Iq} {rec:(List Iq×Int×Unit)→Option (List Iq×Unit)} {F:Nat} (hF:1000<F) (pre:List Iq) (hpre:pre.length<1000000):
  aE (yU m f S (o,(k:Int),()) rec) F (pre,(0:Int),())=rec (pre++S.2.1.map (fun to=>eX (codeN m f:Int) (k:Int) to (IntKind.i64.wrap (0 - iI m (aG m f (k:Int))))),((k+1:Nat):Int),()):=by
 have hc:=fB hs hf
 have hw:=bB hk (show _≤lenMax by simp only[lenMax];omega)
 have fold:∀g:Int,m.2.2.2.1.getD g.toNat zMt=aD m g:=fun _=>rfl
 have fold3:(aD m f).2.2.2.1.length=codeN m f:=rfl
 have fold2:(aD m f).2.2.2.1.getD k zIns=aG m f (k:Int):=rfl
 have hcost:kN m (aG m f (k:Int))=some (iI m (aG m f (k:Int)),()):=by unfold kN;rw[(dF hs).1];rfl
 generalize hR:S.2.1.map (fun to=>eX (codeN m f:Int) (k:Int) to (IntKind.i64.wrap (0 - iI m (aG m f (k:Int)))))=R
 have hRl:R.length=S.2.1.length:=by rw[←hR,qF]
 have:=nU (L:=yU m f S (o,(k:Int),()) rec) (n:=S.2.1.length) (st:=fun j=>(pre++R.take j,(j:Int),()))
  (fin:=rec (pre++R,((k+1:Nat):Int),()))
  (fun j rec2 hj=>by
   have hx:S.2.1[j]? =some S.2.1[j]:=aT hj
   obtain⟨t0,t1⟩:=hto _ (dU hj)
   have hxR:R[j]? =some (eX (codeN m f:Int) (k:Int) S.2.1[j] (IntKind.i64.wrap (0 - iI m (aG m f (k:Int))))):=by
    rw[←hR,iM,hx]
    rfl
   have hroom:decide ((pre++R.take j).length+(0+1)<rowMax)=true:=kL (by rw[aX,cA];omega)
   rw[yU]
   simp only[fold,fold3,aR,fold2,dlt hj,dge,aH,aA,getD_some hx]
   rw[hcost,aJ,aDc (by omega) (by omega) (by omega) (by omega),aJ]
   simp only[aF,bT,hroom,aA,bB hj (show _≤lenMax by simp only[lenMax];omega)]
   rw[rS,hxR,cF]
   rfl)
  (fun rec2=>by
   rw[yU]
   simp only[bH,aB,hw]
   rw[List.take_of_length_le (by omega)]) F (by omega)
 rw[List.take_zero,bZ] at this
 exact this
theorem aOe (m:Im) (l:List (List Sh)) (f:Int) (r) (h:sT m l f=some r):∃k,aG7 k m l f=some r:=by
 unfold sT at h
 cases hb:aK m&&fC l <;> simp only[hb,aA,aB] at h
 ·cases h
 injection h with h
 subst h
 simp only[aC] at hb
 obtain⟨hs,hl⟩:=hb
 obtain⟨F,hF⟩:∃F:Nat,1000<F:=⟨1001,by omega⟩
 refine⟨F,?_⟩
 have fold:∀g:Int,m.2.2.2.1.getD g.toNat zMt=aD m g:=fun _=>rfl
 have fold3:(aD m f).2.2.2.1.length=codeN m f:=rfl
 have fold4:(aD m f).2.2.2.2.2.1=eH m f:=rfl
 unfold aG7 mG
 simp only[fold,fold3,fold4]
 cases hf:inM m f
 ·simp only[aB]
  have:¬(0≤f∧f<(m.2.2.2.1.length:Int)):=fun hh=>by rw[bD.2 hh] at hf;cases hf
  by_cases h0:f<0
  ·simp only[h0,aM,aA]
  ·have h1:f≥(m.2.2.2.1.length:Int):=by omega
   simp only[h0,h1,aM,bQ,aA,aB]
 obtain⟨f0,f1⟩:=bD.1 hf
 have f2:¬f<0:=by omega
 have f3:¬f≥(m.2.2.2.1.length:Int):=by omega
 have hc:=fB hs hf
 have hc0:((codeN m f:Int)==0)=false:=rO.2 (by omega)
 rw[bO f2,aB,bO f3,aB,aI f0,aI f1,aH,aA,hc0,aB,aA,aA,aA]
 rw[aDc (by omega) (by omega) (by omega) (by omega),aJ]
 have:=tC (L:=aA6 m l f F) (n:=codeN m f) (B:=3) (st:=fun k out=>(eX (codeN m f:Int) (-1) 0 (eH m f)::out,(k:Int),())) (f:=fun k=>nK m l f (k:Int)) (fin:=fun out=>some (eX (codeN m f:Int) (-1) 0 (eH m f)::out,()))
  (fun k _=>aFZ ..)
  (fun k out rec hk ho=>by
   have hw:=bB hk (show _≤lenMax by simp only[lenMax];omega)
   have hp:pC l f (k:Int)=some (cE l f (k:Int),()):=by unfold pC;simp only[f0,dge,aM,aH,aA]
   have hst:pR m f (k:Int) (cE l f (k:Int)).2.1=some (aO m f (k:Int) (cE l f (k:Int)).2.1):=by unfold pR;rw[hs,aCN hl];rfl
   have fold2:(aD m f).2.2.2.1.getD k zIns=aG m f (k:Int):=rfl
   have d1:decide ((k:Int)<(((aD m f).2.2.2.1.length:Nat):Int))=true:=dlt hk
   rw[aA6]
   dsimp only
   rw[fold,d1,aA,dge,uF,aA,hp,aJ]
   dsimp only
   cases h1:(cE l f (k:Int)).1
   case false=>
    rw[cJ,aA,hw]
    simp only[nK,h1,cJ,aA,bZ]
   rw[bA,aB,hst,aJ]
   have h2:(aO m f (k:Int) (cE l f (k:Int)).2.1).2.1.length≤2:=uR ..
   cases h3:(aO m f (k:Int) (cE l f (k:Int)).2.1).2.2.1 !=0
   case true=>
    rw[aA,hw]
    simp only[nK,h1,h3,bA,aB,aA,bZ]
   obtain⟨-,-,-,hto⟩:=oT hs (f:=f) (pc:=(k:Int)) (s:=(cE l f (k:Int)).2.1) (by simpa using h3)
   rw[aB]
   have hrule:nK m l f (k:Int)=(bif decide ((aO m f (k:Int) (cE l f (k:Int)).2.1).2.1.length=0) then[eX (codeN m f:Int) (k:Int) (-1) 0] else[])++(aO m f (k:Int) (cE l f (k:Int)).2.1).2.1.map fun to=>eX (codeN m f:Int) (k:Int) to (IntKind.i64.wrap (0 - iI m (aG m f (k:Int)))):=by simp only[nK,h1,h3,bA,aB]
   rw[hrule]
   generalize hS:aO m f (k:Int) (cE l f (k:Int)).2.1=S at h2 h3 hto
   have inner:=aMS hs hf hk h2 hto (o:=eX (codeN m f:Int) (-1) 0 (eH m f)::out) (rec:=rec) hF
   by_cases h0:S.2.1.length=0
   ·have e1:((S.2.1.length:Int)==0)=true:=by rw[h0];rfl
    have e2:decide (S.2.1.length=0)=true:=aI h0
    have hroom:decide ((eX (codeN m f:Int) (-1) 0 (eH m f)::out).length+(0+1)<rowMax)=true:=kL (by simp only[aF];omega)
    rw[e1,e2,aA,aA]
    rw[fold3,aDc (by omega) (by omega) (by omega) (by omega),aJ]
    have e3:∀q:Iq,([q]:List Iq).length=0+1:=fun _=>rfl
    rw[e3,hroom,aA,aJ]
    refine (inner (eX (codeN m f:Int) (-1) 0 (eH m f)::out++[eX (codeN m f:Int) (k:Int) (-1) 0]) (by rw[aX,aF,aF,bT];omega)).trans ?_
    rw[cF,rU]
   ·have e1:((S.2.1.length:Int)==0)=false:=rO.2 (by omega)
    have e2:decide (S.2.1.length=0)=false:=bO h0
    rw[e1,e2,aB,aB,aJ]
    refine (inner (eX (codeN m f:Int) (-1) 0 (eH m f)::out) (by rw[aF];omega)).trans ?_
    rw[rU,qD])
  (fun out rec _=>by
   rw[aA6]
   simp only[fold,fold3,bH,aB,idL]) F (by omega)
 exact this
theorem aMT {m:Im} (hs:aK m=true) (l:List (List Sh)) (f:Int):(mG m l f).length≤1000:=by
 unfold mG
 cases hf:inM m f <;> simp only[aA,aB]
 ·simp
 have hc:=fB hs hf
 have key:∀n:Nat,(((List.range n).map fun k:Nat=>nK m l f (k:Int)).flatten).length≤3*n:=by
  intro n
  induction n with
  | zero=>simp
  | succ n ih=>
   have:=aFZ m l f (n:Int)
   rw[List.range_succ,kB,iN,aX]
   simp only[dM,List.map_nil,fY,kC,bZ]
   omega
 have:=key (codeN m f)
 rw[aF]
 omega
theorem aMU {m:Im} (l:List (List Sh)) (f:Int):∀q∈mG m l f,q.1.length=codeN m f:=by
 have hr:∀a b c:Int,(eX (codeN m f:Int) a b c).1.length=codeN m f:=by
  intro a b c
  unfold eX aCh
  cases decide (a≥0) <;> cases decide (b≥0) <;> simp
 intro q hq
 unfold mG at hq
 cases hf:inM m f <;> simp only[hf,aA,aB] at hq
 ·cases hq
 rcases bJ.1 hq with rfl | hq
 ·exact hr ..
 simp only[iW,eZ] at hq
 obtain⟨x,⟨k,-,rfl⟩,hq⟩:=hq
 unfold nK at hq
 cases h1: !(cE l f (k:Int)).1 <;> simp only[h1,aA,aB] at hq
 ·cases h2:(aO m f (k:Int) (cE l f (k:Int)).2.1).2.2.1 !=0 <;> simp only[h2,aA,aB] at hq
  ·rw[cR] at hq
   rcases hq with hq | hq
   ·cases h3:decide ((aO m f (k:Int) (cE l f (k:Int)).2.1).2.1.length=0) <;> simp only[h3,aA,aB] at hq
    ·cases hq
    ·rw[eD] at hq;subst hq;exact hr ..
   ·obtain⟨t,-,rfl⟩:=eZ.1 hq
    exact hr ..
  ·cases hq
 ·cases hq
theorem aHh {m:Im} {l:List (List Sh)} (hs:aK m=true) (hl:fC l=true):∀(j k F:Nat),k+j=m.2.2.2.1.length→j<F→aE (vQ m l 1001) F ((k:Int),())=some (yV m l ((List.range' k j).map fun n:Nat=>(n:Int)))
 | 0,k,F,hk,hF=>by
  obtain⟨F,rfl⟩:∃n,F=n+1:=⟨F - 1,by omega⟩
  have:k=m.2.2.2.1.length:=by omega
  subst this
  rw[aY,vQ]
  simp only[bH,aB]
  rfl
 | j+1,k,F,hk,hF=>by
  obtain⟨F,rfl⟩:∃n,F=n+1:=⟨F - 1,by omega⟩
  have h12:=(cV (dF hs).1).methods
  have hlt:k<m.2.2.2.1.length:=by omega
  have hin:inM m (k:Int)=true:=bD.2 ⟨by omega,by omega⟩
  have hc:=fB hs hin
  have hw:=bB hlt (show _≤lenMax by simp only[lenMax];omega)
  have fold:∀g:Nat,m.2.2.2.1.getD g zMt=aD m (g:Int):=fun _=>rfl
  have fold4:(aD m (k:Int)).2.2.2.2.2.2.1=jP m (k:Int):=rfl
  have hr:sT m l (k:Int)=some (mG m l (k:Int),()):=by unfold sT;rw[hs,hl];rfl
  have hrl:=aMT hs l (k:Int)
  rw[aY,vQ]
  simp only[dlt hlt,dge,aH,aA,hr,aJ]
  have key:=lJ (L:=aBi m ((k:Int),()) (aE (vQ m l 1001) F) (mG m l (k:Int),())) (xs:=mG m l (k:Int)) (st:=fun j=>((j:Int),())) (p:=aBI m (k:Int)) (ex:=some ((k:Int),6,())) (fin:=bif (jP m (k:Int)).any vS then some ((k:Int),6,()) else aE (vQ m l 1001) F (((k+1:Nat):Int),()))
   (fun j q rec hj hjl=>by
    have hh:wF q (jP m (k:Int))=some (pQ q (jP m (k:Int))):=by
     have:=aMU (m:=m) l (k:Int) q (kY hj)
     unfold wF;rw[fD (by omega)];rfl
    rw[aBi]
    simp only[dlt hjl,dge,aH,aA,aR,getD_some hj,fold,fold4,hh,aJ,bB hjl (show _≤lenMax by simp only[lenMax];omega),aBI]
    by_cases he:(pQ q (jP m (k:Int))).2.1=0
    ·have:((pQ q (jP m (k:Int))).2.1 !=0)=false:=by simp[he]
     simp only[he,aM,eK]
     cases (pQ q (jP m (k:Int))).1 <;> rfl
    ·have:((pQ q (jP m (k:Int))).2.1 !=0)=true:=by simp[he]
     simp only[this,he,bQ,mC,aA,aB])
   (fun rec=>by
    rw[aBi]
    simp only[bH,aB,aR,fold,fold4,zW,hw]) 1001 (by omega)
  refine key.trans ?_
  rw[List.range'_succ,dM,yV]
  cases (mG m l (k:Int)).all (aBI m (k:Int)) <;> simp only[aA,aB]
  cases (jP m (k:Int)).any vS <;> simp only[aA,aB]
  exact aHh hs hl j (k+1) F (by omega) (by omega)
theorem aOw (m:Im) (l:List (List Sh)) (r) (h:pE m l=some r):∃k,aHi k m l=some r:=by
 unfold pE at h
 cases hb:aK m&&fC l <;> simp only[hb,aA,aB] at h
 ·cases h
 injection h with h
 subst h
 simp only[aC] at hb
 have h12:=(cV (dF hb.1).1).methods
 refine⟨1001,?_⟩
 unfold aHi
 rw[show ints m.2.2.2.1.length=(List.range' 0 m.2.2.2.1.length).map fun n:Nat=>(n:Int) by rw[←List.range_eq_range'];rfl]
 exact aHh hb.1 hb.2 m.2.2.2.1.length 0 1001 (by omega) (by omega)
theorem aOa (m:Im) (i:Ins) (r) (h:sR m i=some r):∃k,aGY k m i=some r:=by
 unfold sR at h
 cases hb:bW m&&(bK m i).all (inM m) <;> simp only[hb,aA,aB] at h
 ·cases h
 injection h with h
 subst h
 simp only[aC,bM] at hb
 obtain⟨hi,hin⟩:=hb
 have htl:=uP hi i
 have h12:=(cV hi).methods
 have hfl:=aBP hi i.2.1
 have ht:oZ m i=some (bK m i,()):=by unfold oZ;rw[hi];rfl
 have hc:iZ m i.2.1=some (dQ m i.2.1,()):=by unfold iZ;rw[hi];rfl
 refine⟨1001,?_⟩
 unfold aGY nO
 rw[hc,ht]
 cases i.1==22 <;> cases i.1==23 <;> simp only[aA,aB,aJ]
 ·have:=nU (L:=aA5 m (bK m i,())) (n:=(bK m i).length) (st:=fun k=>(lI (((bK m i).take k).map (eH m)),(k:Int),())) (fin:=some (lI ((bK m i).map (eH m)),()))
   (fun k rec hk=>by
    have hw:=bB hk (show _≤lenMax by simp only[lenMax];omega)
    have hx:(bK m i)[k]? =some (bK m i)[k]:=aT hk
    obtain⟨g0,g1⟩:=bD.1 (hin _ (dU hk))
    have fold:∀g:Int,m.2.2.2.1.getD g.toNat zMt=aD m g:=fun _=>rfl
    have fold4:∀g,(aD m g).2.2.2.2.2.1=eH m g:=fun _=>rfl
    rw[aA5]
    simp only[dlt hk,dge,aH,aA,aR,getD_some hx,hw,fold,fold4,g0,g1,aM]
    rw[rS,hx]
    generalize (bK m i)[k]=g
    have hm:lI (((bK m i).take k++(some g).toList).map (eH m))=max (lI (((bK m i).take k).map (eH m))) (eH m g):=by
     unfold lI
     rw[kB,List.foldl_append]
     rfl
    rw[hm]
    by_cases hgt:eH m g>lI (((bK m i).take k).map (eH m))
    ·rw[aI hgt,Int.max_eq_right (by omega)];rfl
    ·rw[bO hgt,Int.max_eq_left (by omega)];rfl)
   (fun rec=>by
    rw[aA5]
    simp only[bH,aB,iA]) 1001 (by omega)
  exact this
 ·unfold qM
  rw[cT (by omega) (by omega)]
  simp
 ·unfold qM
  rw[cT (by omega) (by omega)]
  simp
end Go.Pli

/- All of layer 13 to 16's functions. -/
