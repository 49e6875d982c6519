/- Sums: the printed functions come to what is told in plain Lean. -/
import Derived.Test.YtcofionghgmldaaGreatPliL11
import Derived.Lib.Mul64
namespace Go.Pli
open Go Go.PM
theorem aPG (n:Nat):IntKind.u64.wrap (n:Int)=((n % 18446744073709551616:Nat):Int):=by
 rw[IntKind.wrap_u64];omega
theorem aX7 (n:Nat):(n:Int).fdiv 4294967296=((n/4294967296:Nat):Int):=by
 rw[Int.fdiv_eq_ediv_of_nonneg _ (by omega)];rfl
theorem aU7 (n:Nat):(((BitVec.ofInt 64 (n:Int)&&&BitVec.ofInt 64 4294967295).toNat:Nat):Int)=((n % 4294967296:Nat):Int):=by
 have h1:(BitVec.ofInt 64 (n:Int)).toNat=n % 18446744073709551616:=by
  rw[BitVec.toNat_ofInt];omega
 have h2:(BitVec.ofInt 64 4294967295).toNat=2 ^ 32 - 1:=by decide
 rw[BitVec.toNat_and,h1,h2,Nat.and_two_pow_sub_one_eq_mod];congr 1;omega
theorem aUG (x y:Int) (r) (h:zL x y=some r):aLE x y=some r:=by
 unfold zL at h;cases hb:inU x&&inU y <;> simp only[hb,aA,aB] at h
 ·cases h
 injection h with h
 subst h;simp only[inU,aC,aO] at hb;obtain⟨⟨x0,x1⟩,y0,y1⟩:=hb;obtain⟨a,rfl⟩:∃a:Nat,x=a:=⟨x.toNat,by omega⟩;obtain⟨b,rfl⟩:∃b:Nat,y=b:=⟨y.toNat,by omega⟩;have ha:a<18446744073709551616:=by omega
 have hb:b<18446744073709551616:=by omega
 obtain⟨h1,h2,h3,h4⟩:=Lib.mul64_hi a b ha hb;have ma:a % 4294967296 % 18446744073709551616=a % 4294967296:=lR (by omega);have mb:b % 4294967296 % 18446744073709551616=b % 4294967296:=lR (by omega);unfold aLE;simp only[aX7,aU7,aPG,←Int.natCast_mul,←Int.natCast_add,ma,mb];have e1:a % 4294967296*(b % 4294967296) % 18446744073709551616=a % 4294967296*(b % 4294967296):=lR h1;simp only[e1];have p1:=Lib.half_mul_le (a:=a/4294967296) (b:=b % 4294967296) (by omega) (by omega);have e2:a/4294967296*(b % 4294967296) % 18446744073709551616=a/4294967296*(b % 4294967296):=lR (by omega);simp only[e2];have e3:=lR h2;simp only[e3];have p2:=Lib.half_mul_le (a:=a % 4294967296) (b:=b/4294967296) (by omega) (by omega);have e4:a % 4294967296*(b/4294967296) % 18446744073709551616=a % 4294967296*(b/4294967296):=lR (by omega);have e5:∀t:Nat,t % 4294967296 % 18446744073709551616=t % 4294967296:=fun t=>lR (by omega);simp only[e4,e5];have e6:=lR h3;simp only[e6];have p3:=Lib.half_mul_le (a:=a/4294967296) (b:=b/4294967296) (by omega) (by omega);have e7:a/4294967296*(b/4294967296) % 18446744073709551616=a/4294967296*(b/4294967296):=lR (by omega);simp only[e7];have hq:a*b/18446744073709551616<18446744073709551616:=by
  have:=Nat.mul_le_mul (show a≤18446744073709551615 by omega) (show b≤18446744073709551615 by omega);omega
 have e8:(a/4294967296*(b/4294967296)+(a/4294967296*(b % 4294967296)+a % 4294967296*(b % 4294967296)/4294967296)/4294967296) % 18446744073709551616=a/4294967296*(b/4294967296)+(a/4294967296*(b % 4294967296)+a % 4294967296*(b % 4294967296)/4294967296)/4294967296:=lR (by omega);simp only[e8,h4];rw[lR hq];rfl
theorem aVk (n:Int):aMb n=some (lof n,()):=by
 unfold aMb lof;cases decide (n> -4611686018427387904) <;> rfl
theorem aVd (n:Int):aL3 n=some (eR n,()):=by
 unfold aL3 eR;cases decide (n<0) <;> rfl
theorem aVf (a b:Sure) (r) (h:aBF a b=some r):aL4 a b=some r:=by
 rw[←h];unfold aL4 aBF zF;cases a.2.1 <;> cases b.2.1 <;> rfl
theorem aL2 (n:Int):inU (eR n)=true:=by
 unfold eR inU;cases decide (n<0) <;> simp only[aA,aB,aC,aO,IntKind.wrap_u64] <;> omega
theorem aVb (a b:Sure) (r) (h:aBE a b=some r):aL1 a b=some r:=by
 rw[←h];have hm:zL (eR a.1) (eR b.1)=some (eR a.1*eR b.1/18446744073709551616,eR a.1*eR b.1 % 18446744073709551616,()):=by
  unfold zL;rw[aL2,aL2];rfl
 unfold aL1 aBE xY;rw[hm];generalize eR a.1*eR b.1/18446744073709551616=u;generalize eR a.1*eR b.1 % 18446744073709551616=v;cases a.2.1 <;> cases b.2.1 <;> simp only[aV,bU,aG,kZ,vE,aA,aB,aF];by_cases hu:u=0
 ·have:(u !=0)=false:=by simp[hu]
  simp only[hu,ne_eq,not_true_eq_false,bB,iR];cases decide (v≥4611686018427387904) <;> rfl
 ·have:(u !=0)=true:=by simp[hu]
  simp only[this,hu,ne_eq,not_false_eq_true,aK,vD,aA]
theorem aI1 (p:Int×Int):∀(l:List (Int×Int)) (a:Sure),oH (l++[p]) a=zF (oH l a) (xY (lof p.1) (lof p.2))
 | [],_=>rfl
 | _::l,_=>aI1 p l _
theorem aVq (q:Iq) (v:List Int) (r) (h:zY q v=some r):∃k,aMh k q v=some r:=by
 unfold zY at h;cases hb:okL q.1 <;> simp only[hb,aA,aB] at h
 ·cases h
 injection h with h
 subst h;have hl:=iG hb;refine⟨q.1.length+1,?_⟩;unfold aMh pB;by_cases he:q.1.length=v.length
 ·have e1:((q.1.length:Int) !=(v.length:Int))=false:=by rw[he];simp
  have e2:decide (q.1.length≠v.length)=false:=by simp[he]
  simp only[e1,e2,aB];have:=lK (L:=aDP q v) (n:=q.1.length) (st:=fun k=>((k:Int),oH ((q.1.zip v).take k) (lof 0),())) (fin:=some (aD8 q.2.1 (oH (q.1.zip v) (lof 0))))
   (fun k rec hk=>by
    have hv:k<v.length:=by omega
    have hz:(q.1.zip v)[k]? =some (q.1.getD k 0,v.getD k 0):=by
     rw[aX (show k<(q.1.zip v).length by rw[List.length_zip];omega)];simp[hk,hv]
    rw[aDP];simp only[dlt hk,dlt hv,dge,aG,aA,aL,aQ hk (show _≤lenMax by simp only[lenMax];omega),aBE,aBF,aF];rw[oB,hz];show _=rec (_,oH ((q.1.zip v).take k++[(q.1.getD k 0,v.getD k 0)]) (lof 0),());rw[aI1])
   (fun rec=>by
    have:(q.1.zip v).take q.1.length=q.1.zip v:=List.take_of_length_le (by rw[List.length_zip];omega);rw[aDP];simp only[aU,aB,this,aD8];cases (oH (q.1.zip v) (lof 0)).2.1 <;> rfl) (q.1.length+1) (by omega)
  exact this
 ·have e1:((q.1.length:Int) !=(v.length:Int))=true:=by simp;omega
  have e2:decide (q.1.length≠v.length)=true:=by simp[he]
  simp only[e1,e2,aA]
end Go.Pli

namespace Go.Pli
open Go Go.PM
theorem aTQ (l:List (List Sh)) (f pc:Int) (r) (h:zC l f pc=some r):aK6 l f pc=some r:=by
 unfold zC at h;cases hb:decide (0≤f)&&decide (0≤pc) <;> simp only[hb,aA,aB] at h
 ·cases h
 injection h with h
 subst h;simp only[aC,aO] at hb;unfold aK6 dJ;by_cases h1:f≥(l.length:Int)
 ·have e:l.getD f.toNat []=[]:=iL (by omega);simp only[h1,aK,aA,e];rfl
 ·have h1':f<(l.length:Int):=by omega
  simp only[h1,h1',hb.1,aK,bB,aG,aA,aB];by_cases h2:pc≥((l.getD f.toNat []).length:Int)
  ·have e:(l.getD f.toNat []).getD pc.toNat zSh=zSh:=iL (by omega);simp only[h2,aK,aA,e]
  ·have h2':pc<((l.getD f.toNat []).length:Int):=by omega
   simp only[h2,h2',hb.2,aK,bB,aG,aA,aB]
theorem aT4 (m:Im) (i:Ins) (r) (h:zG m i=some r):∃k,aLg k m i=some r:=by
 unfold zG at h;cases hi:bI m <;> simp only[hi,aA,aB] at h
 ·cases h
 injection h with h
 subst h;have htl:=yA hi i;have h12:=(cH hi).methods;have hfl:=aEm hi i.2.1;have ht:sP m i=some (cT m i,()):=by unfold sP;rw[hi];rfl
 refine⟨1001,?_⟩;have hc:aAv m i.2.1=some (tL m i.2.1,()):=by unfold aAv;rw[hi];rfl
 unfold aLg qS;rw[hc,ht];cases i.1==22 <;> cases i.1==23 <;> simp only[aA,aB,aF];have:=lK (L:=aDx m (cT m i,())) (n:=(cT m i).length) (st:=fun k=>(gC ((((cT m i).take k).filter (inM m)).map (eE m)),(k:Int),())) (fin:=some (gC (((cT m i).filter (inM m)).map (eE m)),()))
  (fun k rec hk=>by
   have hw:=aQ hk (show _≤lenMax by simp only[lenMax];omega);have hx:(cT m i)[k]? =some (cT m i)[k]:=aX hk;have fold:∀g:Int,m.2.2.2.1.getD g.toNat zMt=aE m g:=fun _=>rfl;rw[aDx];simp only[dlt hk,dge,aG,aA,aL,getD_some hx,hw,fold];rw[oB,hx];generalize (cT m i)[k]=g;by_cases h0:g≥0
   ·by_cases h1:g<(m.2.2.2.1.length:Int)
    ·have hin:inM m g=true:=bR.2 ⟨h0,h1⟩;have h0':0≤g:=h0;simp only[h0,h1,aK,aG,aA,Option.toList_some,List.filter_append,List.filter_cons,List.filter_nil,hin,dA,pJ,dM,List.map_nil];unfold gC;rw[List.foldl_append];rfl
    ·have hin:inM m g=false:=by
      cases hh:inM m g
      ·rfl
      ·exact absurd (bR.1 hh).2 h1
     simp only[h0,h1,aK,bB,aA,aB,Option.toList_some,List.filter_append,List.filter_cons,List.filter_nil,hin,lX,cU,bZ]
   ·have hin:inM m g=false:=by
     cases hh:inM m g
     ·rfl
     ·exact absurd (bR.1 hh).1 h0
    simp only[h0,bB,aB,Option.toList_some,List.filter_append,List.filter_cons,List.filter_nil,hin,lX,cU,bZ])
  (fun rec=>by
   rw[aDx];simp only[aU,aB,iD]) 1001 (by omega)
 exact this
theorem aGb {n a b c:Int} (h0:0≤n) (h1:n<1000000) (ha:a<n) (hb:b<n):tY n a b c=some (eP n a b c,()):=by
 unfold tY;rw[aH h0,aH ha,aH hb,aO2 (show n.toNat<1000000 by omega)];rfl
theorem aTU (n a b c:Int) (r) (h:tY n a b c=some r):aK8 n a b c=some r:=by
 unfold tY at h;cases hh:decide (0≤n)&&(Nat.blt n.toNat 1000000&&(decide (a<n)&&decide (b<n))) <;> simp only[hh,aA,aB] at h
 ·cases h
 injection h with h
 subst h;simp only[aC,aO,iX] at hh;obtain⟨n0,n1,an,bn⟩:=hh;have e0:decide (n≤n)=true:=aH (by omega);have e1:decide (n<(rowMax:Int))=true:=aH (by simp only[rowMax];omega);have en:((n.toNat:Nat):Int)=n:=by omega
 unfold aK8 eP jN;simp only[n0,e0,e1,aK,aG,aA,dB,pK,en,an,bn,kZ];by_cases ha:a≥0 <;> by_cases hb:b≥0
 ·have ha':0≤a:=ha;have hb':0≤b:=hb;simp only[ha,hb,aK,aA];rfl
 ·have ha':0≤a:=ha;simp only[ha,hb,aK,bB,aA,aB];rfl
 ·have hb':0≤b:=hb;simp only[ha,hb,aK,bB,aA,aB]
 ·simp only[ha,hb,bB,aB]
theorem aWf (l:List Int) (c:Unit) (h:aWi l c):∃k,aWh k l c=some (aDY l c,()):=by
 refine⟨l.length+1,uE (st:=fun k=>((k:Int),())) (p:=rW) (fun k x rec hk hlt=>?_) (fun rec=>?_) _ (fM _)⟩
 ·unfold aHd;simp only[dlt hlt,dge,aG,aA,aL,getD_some hk,aQ hlt h.1.1];rfl
 ·unfold aHd;simp only[aU,aB]
theorem aY0 (l:List Int) (c:Unit) (_:aY2 l c):aOb l c=some (aB4 l c,()):=by
 unfold aOb aDY aB4;rw[sE]
theorem aJR (m:Im) (l:List (List Sh)) (f pc:Int):(nI m l f pc).length≤3:=by
 have h2:(aW m f pc (dJ l f pc).2.1).2.1.length≤2:=yC ..;unfold nI;cases !(dJ l f pc).1 <;> simp only[aA,aB]
 ·cases (aW m f pc (dJ l f pc).2.1).2.2.1 !=0 <;> simp only[aA,aB]
  ·rw[aS,sZ];cases decide ((aW m f pc (dJ l f pc).2.1).2.1.length=0) <;> simp only[aA,aB,aJ,bJ] <;> omega
  ·simp
 ·simp
theorem aRo {l:List (List Sh)} (h:dK l=true) (f pc:Int):okL (dJ l f pc).2.1=true:=by
 unfold dJ;by_cases h1:f.toNat<l.length
 ·obtain⟨-,h2⟩:=zI h h1;by_cases h3:pc.toNat<(l.getD f.toNat []).length
  ·rw[getD_some (aX h3)];exact gB (h2 _ (dT h3))
  ·rw[iL (by omega)];rfl
 ·rw[iL (show l.length≤f.toNat by omega)];rfl
theorem aRY {m:Im} (hs:aM m=true) {f:Int} (hf:inM m f=true) {k:Nat} (hk:k<aI m f) {S:St4} (h2:S.2.1.length≤2) (hto:∀to∈S.2.1,0≤to∧to<(aI m f:Int)) {o:List Iq} {rec:(List Iq×Int×Unit)→Option (List Iq×Unit)} {F:Nat} (hF:1000<F) (pre:List Iq) (hpre:pre.length<1000000):
  aD (aBt m f S (o,(k:Int),()) rec) F (pre,(0:Int),())=rec (pre++S.2.1.map (fun to=>eP (aI m f:Int) (k:Int) to (IntKind.i64.wrap (0 - qS m (aN m f (k:Int))))),((k+1:Nat):Int),()):=by
 have hc:=gR hs hf;have hw:=aQ hk (show _≤lenMax by simp only[lenMax];omega);have fold:∀g:Int,m.2.2.2.1.getD g.toNat zMt=aE m g:=fun _=>rfl;have fold3:(aE m f).2.2.2.1.length=aI m f:=rfl;have fold2:(aE m f).2.2.2.1.getD k cC=aN m f (k:Int):=rfl;have hcost:zG m (aN m f (k:Int))=some (qS m (aN m f (k:Int)),()):=by unfold zG;rw[(cX hs).1];rfl
 generalize hR:S.2.1.map (fun to=>eP (aI m f:Int) (k:Int) to (IntKind.i64.wrap (0 - qS m (aN m f (k:Int)))))=R;have hRl:R.length=S.2.1.length:=by rw[←hR,sZ]
 have:=lK (L:=aBt m f S (o,(k:Int),()) rec) (n:=S.2.1.length) (st:=fun j=>(pre++R.take j,(j:Int),()))
  (fin:=rec (pre++R,((k+1:Nat):Int),()))
  (fun j rec2 hj=>by
   have hx:S.2.1[j]? =some S.2.1[j]:=aX hj;obtain⟨t0,t1⟩:=hto _ (dT hj);have hxR:R[j]? =some (eP (aI m f:Int) (k:Int) S.2.1[j] (IntKind.i64.wrap (0 - qS m (aN m f (k:Int))))):=by
    rw[←hR,rE,hx];rfl
   have hroom:decide ((pre++R.take j).length+(0+1)<rowMax)=true:=mD (by rw[aS,cO];omega);rw[aBt];simp only[fold,fold3,aL,fold2,dlt hj,dge,aG,aA,getD_some hx];rw[hcost,aF,aGb (by omega) (by omega) (by omega) (by omega),aF];simp only[aJ,bJ,hroom,aA,aQ hj (show _≤lenMax by simp only[lenMax];omega)];rw[oB,hxR,bG];rfl)
  (fun rec2=>by
   rw[aBt];simp only[aU,aB,hw];rw[List.take_of_length_le (by omega)]) F (by omega)
 rw[List.take_zero,bZ] at this;exact this
theorem aTS (m:Im) (l:List (List Sh)) (f:Int) (r) (h:zD m l f=some r):∃k,aK7 k m l f=some r:=by
 unfold zD at h;cases hb:aM m&&dK l <;> simp only[hb,aA,aB] at h
 ·cases h
 injection h with h
 subst h;simp only[aC] at hb;obtain⟨hs,hl⟩:=hb;obtain⟨F,hF⟩:∃F:Nat,1000<F:=⟨1001,by omega⟩;refine⟨F,?_⟩;have fold:∀g:Int,m.2.2.2.1.getD g.toNat zMt=aE m g:=fun _=>rfl;have fold3:(aE m f).2.2.2.1.length=aI m f:=rfl;have fold4:(aE m f).2.2.2.2.2.1=eE m f:=rfl;unfold aK7 mB;simp only[fold,fold3,fold4];cases hf:inM m f
 ·simp only[aB];have:¬(0≤f∧f<(m.2.2.2.1.length:Int)):=fun hh=>by rw[bR.2 hh] at hf;cases hf
  by_cases h0:f<0
  ·simp only[h0,aK,aA]
  ·have h1:f≥(m.2.2.2.1.length:Int):=by omega
   simp only[h0,h1,aK,bB,aA,aB]
 obtain⟨f0,f1⟩:=bR.1 hf;have f2:¬f<0:=by omega
 have f3:¬f≥(m.2.2.2.1.length:Int):=by omega
 have hc:=gR hs hf;have hc0:((aI m f:Int)==0)=false:=sS.2 (by omega);rw[aT f2,aB,aT f3,aB,aH f0,aH f1,aG,aA,hc0,aB,aA,aA,aA];rw[aGb (by omega) (by omega) (by omega) (by omega),aF];have:=wI (L:=aDv m l f F) (n:=aI m f) (B:=3) (st:=fun k out=>(eP (aI m f:Int) (-1) 0 (eE m f)::out,(k:Int),())) (f:=fun k=>nI m l f (k:Int)) (fin:=fun out=>some (eP (aI m f:Int) (-1) 0 (eE m f)::out,()))
  (fun k _=>aJR ..)
  (fun k out rec hk ho=>by
   have hw:=aQ hk (show _≤lenMax by simp only[lenMax];omega);have hp:zC l f (k:Int)=some (dJ l f (k:Int),()):=by unfold zC;simp only[f0,dge,aK,aG,aA]
   have hst:sH m f (k:Int) (dJ l f (k:Int)).2.1=some (aW m f (k:Int) (dJ l f (k:Int)).2.1):=by unfold sH;rw[hs,aRo hl];rfl
   have fold2:(aE m f).2.2.2.1.getD k cC=aN m f (k:Int):=rfl;have d1:decide ((k:Int)<(((aE m f).2.2.2.1.length:Nat):Int))=true:=dlt hk;rw[aDv]
   dsimp only
   rw[fold,d1,aA,dge,kZ,aA,hp,aF]
   dsimp only
   cases h1:(dJ l f (k:Int)).1
   case false=>
    rw[bU,aA,hw];simp only[nI,h1,bU,aA,bZ]
   rw[aV,aB,hst,aF];have h2:(aW m f (k:Int) (dJ l f (k:Int)).2.1).2.1.length≤2:=yC ..;cases h3:(aW m f (k:Int) (dJ l f (k:Int)).2.1).2.2.1 !=0
   case true=>
    rw[aA,hw];simp only[nI,h1,h3,aV,aB,aA,bZ]
   obtain⟨-,-,-,hto⟩:=oI hs (f:=f) (pc:=(k:Int)) (s:=(dJ l f (k:Int)).2.1) (by simpa using h3);rw[aB];have hrule:nI m l f (k:Int)=(bif decide ((aW m f (k:Int) (dJ l f (k:Int)).2.1).2.1.length=0) then[eP (aI m f:Int) (k:Int) (-1) 0] else[])++(aW m f (k:Int) (dJ l f (k:Int)).2.1).2.1.map fun to=>eP (aI m f:Int) (k:Int) to (IntKind.i64.wrap (0 - qS m (aN m f (k:Int)))):=by simp only[nI,h1,h3,aV,aB]
   rw[hrule];generalize hS:aW m f (k:Int) (dJ l f (k:Int)).2.1=S at h2 h3 hto;have inner:=aRY hs hf hk h2 hto (o:=eP (aI m f:Int) (-1) 0 (eE m f)::out) (rec:=rec) hF;by_cases h0:S.2.1.length=0
   ·have e1:((S.2.1.length:Int)==0)=true:=by rw[h0];rfl
    have e2:decide (S.2.1.length=0)=true:=aH h0;have hroom:decide ((eP (aI m f:Int) (-1) 0 (eE m f)::out).length+(0+1)<rowMax)=true:=mD (by simp only[aJ];omega);rw[e1,e2,aA,aA];rw[fold3,aGb (by omega) (by omega) (by omega) (by omega),aF];have e3:∀q:Iq,([q]:List Iq).length=0+1:=fun _=>rfl;rw[e3,hroom,aA,aF];refine (inner (eP (aI m f:Int) (-1) 0 (eE m f)::out++[eP (aI m f:Int) (k:Int) (-1) 0]) (by rw[aS,aJ,aJ,bJ];omega)).trans ?_;rw[bG,lV]
   ·have e1:((S.2.1.length:Int)==0)=false:=sS.2 (by omega);have e2:decide (S.2.1.length=0)=false:=aT h0;rw[e1,e2,aB,aB,aF];refine (inner (eP (aI m f:Int) (-1) 0 (eE m f)::out) (by rw[aJ];omega)).trans ?_;rw[lV,oC])
  (fun out rec _=>by
   rw[aDv];simp only[fold,fold3,aU,aB,idL]) F (by omega)
 exact this
theorem aR0 {m:Im} (hs:aM m=true) (l:List (List Sh)) (f:Int):(mB m l f).length≤1000:=by
 unfold mB;cases hf:inM m f <;> simp only[aA,aB]
 ·simp
 have hc:=gR hs hf;have key:∀n:Nat,(((List.range n).map fun k:Nat=>nI m l f (k:Int)).flatten).length≤3*n:=by
  intro n
  induction n with
  | zero=>simp
  | succ n ih=>
   have:=aJR m l f (n:Int);rw[List.range_succ,pJ,hJ,aS];simp only[dM,List.map_nil,gO,lT,bZ];omega
 have:=key (aI m f);rw[aJ];omega
theorem aR1 {m:Im} (l:List (List Sh)) (f:Int):∀q∈mB m l f,q.1.length=aI m f:=by
 have hr:∀a b c:Int,(eP (aI m f:Int) a b c).1.length=aI m f:=by
  intro a b c;unfold eP jN;cases decide (a≥0) <;> cases decide (b≥0) <;> simp
 intro q hq;unfold mB at hq;cases hf:inM m f <;> simp only[hf,aA,aB] at hq
 ·cases hq
 rcases cB.1 hq with rfl | hq
 ·exact hr ..
 simp only[iY,gE] at hq;obtain⟨x,⟨k,-,rfl⟩,hq⟩:=hq;unfold nI at hq;cases h1: !(dJ l f (k:Int)).1 <;> simp only[h1,aA,aB] at hq
 ·cases h2:(aW m f (k:Int) (dJ l f (k:Int)).2.1).2.2.1 !=0 <;> simp only[h2,aA,aB] at hq
  ·rw[dF] at hq;rcases hq with hq | hq
   ·cases h3:decide ((aW m f (k:Int) (dJ l f (k:Int)).2.1).2.1.length=0) <;> simp only[h3,aA,aB] at hq
    ·cases hq
    ·rw[fI] at hq;subst hq;exact hr ..
   ·obtain⟨t,-,rfl⟩:=gE.1 hq;exact hr ..
  ·cases hq
 ·cases hq
theorem aLh {m:Im} {l:List (List Sh)} (hs:aM m=true) (hl:dK l=true):∀(j k F:Nat),k+j=m.2.2.2.1.length→j<F→aD (zH m l 1001) F ((k:Int),())=some (qA m l ((List.range' k j).map fun n:Nat=>(n:Int)))
 | 0,k,F,hk,hF=>by
  obtain⟨F,rfl⟩:∃n,F=n+1:=⟨F - 1,by omega⟩;have:k=m.2.2.2.1.length:=by omega
  subst this;rw[aZ,zH];simp only[aU,aB];rfl
 | j+1,k,F,hk,hF=>by
  obtain⟨F,rfl⟩:∃n,F=n+1:=⟨F - 1,by omega⟩;have h12:=(cH (cX hs).1).methods;have hlt:k<m.2.2.2.1.length:=by omega
  have hin:inM m (k:Int)=true:=bR.2 ⟨by omega,by omega⟩;have hc:=gR hs hin;have hw:=aQ hlt (show _≤lenMax by simp only[lenMax];omega);have fold:∀g:Nat,m.2.2.2.1.getD g zMt=aE m (g:Int):=fun _=>rfl;have fold4:(aE m (k:Int)).2.2.2.2.2.2.1=eA m (k:Int):=rfl;have hr:zD m l (k:Int)=some (mB m l (k:Int),()):=by unfold zD;rw[hs,hl];rfl
  have hrl:=aR0 hs l (k:Int);rw[aZ,zH];simp only[dlt hlt,dge,aG,aA,hr,aF];have key:=gV (L:=aDy m ((k:Int),()) (aD (zH m l 1001) F) (mB m l (k:Int),())) (xs:=mB m l (k:Int)) (st:=fun j=>((j:Int),())) (p:=qK m (k:Int)) (ex:=some ((k:Int),6,())) (fin:=bif (eA m (k:Int)).any rW then some ((k:Int),6,()) else aD (zH m l 1001) F (((k+1:Nat):Int),()))
   (fun j q rec hj hjl=>by
    have hh:zY q (eA m (k:Int))=some (pB q (eA m (k:Int))):=by
     have:=aR1 (m:=m) l (k:Int) q (fR hj);unfold zY;rw[gB (by omega)];rfl
    rw[aDy];simp only[dlt hjl,dge,aG,aA,aL,getD_some hj,fold,fold4,hh,aF,aQ hjl (show _≤lenMax by simp only[lenMax];omega),qK];by_cases he:(pB q (eA m (k:Int))).2.1=0
    ·have:((pB q (eA m (k:Int))).2.1 !=0)=false:=by simp[he]
     simp only[he,aK,cZ];cases (pB q (eA m (k:Int))).1 <;> rfl
    ·have:((pB q (eA m (k:Int))).2.1 !=0)=true:=by simp[he]
     simp only[this,he,bB,jP,aA,aB])
   (fun rec=>by
    rw[aDy];simp only[aU,aB,aL,fold,fold4,aB4,hw]) 1001 (by omega)
  refine key.trans ?_;rw[List.range'_succ,dM,qA];cases (mB m l (k:Int)).all (qK m (k:Int)) <;> simp only[aA,aB];cases (eA m (k:Int)).any rW <;> simp only[aA,aB];exact aLh hs hl j (k+1) F (by omega) (by omega)
theorem aT6 (m:Im) (l:List (List Sh)) (r) (h:tZ m l=some r):∃k,aLi k m l=some r:=by
 unfold tZ at h;cases hb:aM m&&dK l <;> simp only[hb,aA,aB] at h
 ·cases h
 injection h with h
 subst h;simp only[aC] at hb;have h12:=(cH (cX hb.1).1).methods;refine⟨1001,?_⟩;unfold aLi;rw[show ints m.2.2.2.1.length=(List.range' 0 m.2.2.2.1.length).map fun n:Nat=>(n:Int) by rw[←List.range_eq_range'];rfl];exact aLh hb.1 hb.2 m.2.2.2.1.length 0 1001 (by omega) (by omega)
theorem aTM (m:Im) (i:Ins) (r) (h:vZ m i=some r):∃k,aK1 k m i=some r:=by
 unfold vZ at h;cases hb:bI m&&(cT m i).all (inM m) <;> simp only[hb,aA,aB] at h
 ·cases h
 injection h with h
 subst h;simp only[aC,bT] at hb;obtain⟨hi,hin⟩:=hb;have htl:=yA hi i;have h12:=(cH hi).methods;have hfl:=aEm hi i.2.1;have ht:rQ m i=some (cT m i,()):=by unfold rQ;rw[hi];rfl
 have hc:kO m i.2.1=some (eL m i.2.1,()):=by unfold kO;rw[hi];rfl
 refine⟨1001,?_⟩;unfold aK1 nN;rw[hc,ht];cases i.1==22 <;> cases i.1==23 <;> simp only[aA,aB,aF]
 ·have:=lK (L:=aDu m (cT m i,())) (n:=(cT m i).length) (st:=fun k=>(gC (((cT m i).take k).map (eE m)),(k:Int),())) (fin:=some (gC ((cT m i).map (eE m)),()))
   (fun k rec hk=>by
    have hw:=aQ hk (show _≤lenMax by simp only[lenMax];omega);have hx:(cT m i)[k]? =some (cT m i)[k]:=aX hk;obtain⟨g0,g1⟩:=bR.1 (hin _ (dT hk));have fold:∀g:Int,m.2.2.2.1.getD g.toNat zMt=aE m g:=fun _=>rfl;have fold4:∀g,(aE m g).2.2.2.2.2.1=eE m g:=fun _=>rfl;rw[aDu];simp only[dlt hk,dge,aG,aA,aL,getD_some hx,hw,fold,fold4,g0,g1,aK];rw[oB,hx];generalize (cT m i)[k]=g;have hm:gC (((cT m i).take k++(some g).toList).map (eE m))=max (gC (((cT m i).take k).map (eE m))) (eE m g):=by
     unfold gC;rw[pJ,List.foldl_append];rfl
    rw[hm];by_cases hgt:eE m g>gC (((cT m i).take k).map (eE m))
    ·rw[aH hgt,Int.max_eq_right (by omega)];rfl
    ·rw[aT hgt,Int.max_eq_left (by omega)];rfl)
   (fun rec=>by
    rw[aDu];simp only[aU,aB,iD]) 1001 (by omega)
  exact this
 ·unfold tL;rw[bV (by omega) (by omega)];simp
 ·unfold tL;rw[bV (by omega) (by omega)];simp
theorem aRf (m:Im) (h:aJn m):∀F,m.2.2.2.1.length<F→aD (aA1 m) F ((0:Int),())=some (m.2.2.2.1.all fun x=>decide (x.1.length+x.2.1.length+x.2.2.2.1.length+x.2.2.2.2.2.2.1.length≤300),()):=by
 intro F hF;have hm:=h.1.2.2.2.1;have key:aD (aA1 m) F ((0:Int),())=bif m.2.2.2.1.all (fun x=>decide (x.1.length+x.2.1.length+x.2.2.2.1.length+x.2.2.2.2.2.2.1.length≤300)) then some (true,()) else some (false,()):=by
  refine gV (st:=fun k=>((k:Int),())) (p:=fun x:Mt=>decide (x.1.length+x.2.1.length+x.2.2.2.1.length+x.2.2.2.2.2.2.1.length≤300)) (fun k x rec hk hlt=>?_) (fun rec=>?_) _ hF
  ·rw[aA1];obtain⟨⟨l1,_⟩,⟨l2,_⟩,_,⟨l4,_⟩,_,_,⟨l7,_⟩,_⟩:=hm.2 x (fR hk);simp only[lenMax] at l1 l2 l4 l7;simp only[dlt hlt,dge,aG,aA,aL,getD_some hk,aQ hlt hm.1];rw[bV (n:=(x.1.length:Int)+(x.2.1.length:Int)) (by omega) (by omega),bV (n:=(x.1.length:Int)+(x.2.1.length:Int)+(x.2.2.2.1.length:Int)) (by omega) (by omega),bV (by omega) (by omega)];by_cases hc:x.1.length+x.2.1.length+x.2.2.2.1.length+x.2.2.2.2.2.2.1.length≤300
   ·have:¬((x.1.length:Int)+(x.2.1.length:Int)+(x.2.2.2.1.length:Int)+(x.2.2.2.2.2.2.1.length:Int)>300):=by omega
    simp[hc,this]
   ·have:((x.1.length:Int)+(x.2.1.length:Int)+(x.2.2.2.1.length:Int)+(x.2.2.2.2.2.2.1.length:Int)>300):=by omega
    simp[hc,this]
  ·rw[aA1];simp only[aU,aB]
 rw[key];cases m.2.2.2.1.all (fun x=>decide (x.1.length+x.2.1.length+x.2.2.2.1.length+x.2.2.2.2.2.2.1.length≤300)) <;> rfl
theorem aRg (m:Im) (h:aJn m):∃k,aJm k m=some (aA2 m,()):=by
 refine⟨m.2.2.2.1.length+1,?_⟩;unfold aJm aA2;rw[aRf m h _ (by omega)];obtain⟨⟨⟨l1,_⟩,⟨l2,_⟩,⟨l3,_⟩,⟨l4,_⟩,⟨l5,_⟩,_⟩,_⟩:=h;simp only[lenMax] at l1 l2 l3 l4 l5;rw[bV (n:=(m.1.length:Int)+(m.2.1.length:Int)) (by omega) (by omega),bV (n:=(m.1.length:Int)+(m.2.1.length:Int)+(m.2.2.1.length:Int)) (by omega) (by omega),
  bV (n:=(m.1.length:Int)+(m.2.1.length:Int)+(m.2.2.1.length:Int)+(m.2.2.2.1.length:Int)) (by omega) (by omega),bV (by omega) (by omega)]
 unfold aIF;by_cases hc:m.1.length+m.2.1.length+m.2.2.1.length+m.2.2.2.1.length+m.2.2.2.2.1.length≤100
 ·have:¬((m.1.length:Int)+(m.2.1.length:Int)+(m.2.2.1.length:Int)+(m.2.2.2.1.length:Int)+(m.2.2.2.2.1.length:Int)>100):=by omega
  simp only[hc,this,aK,bB,cZ,aB]
 ·have:((m.1.length:Int)+(m.2.1.length:Int)+(m.2.2.1.length:Int)+(m.2.2.2.1.length:Int)+(m.2.2.2.2.1.length:Int)>100):=by omega
  simp only[hc,this,aK,bB,jP,aA]
theorem aSS (a b:List (List Sh)) (r) (h:pW a b=some r):∃k,aKw k a b=some r:=by
 unfold pW at h;cases hb:dK a&&dK b <;> simp only[hb,aA,aB] at h
 ·cases h
 injection h with h
 subst h;simp only[aC] at hb;obtain⟨ha,hb⟩:=hb;have hal:a.length<1000000:=iG (by simp only[dK,aC] at ha;exact ha.1);refine⟨1000001,?_⟩;unfold aKw;by_cases hl:a.length=b.length
 ·have e1:((a.length:Int) !=(b.length:Int))=false:=by rw[hl];simp
  simp only[e1,aB];have key:=zU (L:=aC2 a b 1000001) (xs:=a) (st:=fun k=>((k:Int),())) (p:=fun k x=>x==b.getD k []) (ex:=some (false,())) (fin:=some (true,()))
   (fun k x rec hk hlt=>by
    have hlb:k<b.length:=by omega
    obtain⟨hxl,-⟩:=zI ha hlt;rw[getD_some hk] at hxl;have hw:=aQ hlt (show _≤lenMax by simp only[lenMax];omega);rw[aC2];simp only[dlt hlt,dlt hlb,dge,aG,aA,aL,getD_some hk];generalize hy:b.getD k []=y;by_cases hxy:x.length=y.length
    ·have e2:((x.length:Int) !=(y.length:Int))=false:=by rw[hxy];simp
     simp only[e2,aB];have inner:=zU (L:=aC3 a b ((k:Int),()) rec) (xs:=x) (st:=fun j=>((j:Int),())) (p:=fun j s=>s==y.getD j zSh) (ex:=some (false,())) (fin:=rec (((k+1:Nat):Int),()))
      (fun j s rec2 hj hjl=>by
       have hjy:j<y.length:=by omega
       have hw2:=aQ hjl (show _≤lenMax by simp only[lenMax];omega);rw[aC3];simp only[dlt hlt,dlt hlb,dlt hjl,dlt hjy,dge,aG,aA,aL,getD_some hk,hy,getD_some hj,hw2,kN];have e:(s==y.getD j zSh)=(s.1==(y.getD j zSh).1&&s.2.1==(y.getD j zSh).2.1):=by
        generalize y.getD j zSh=t;obtain⟨s1,s2,⟨⟩⟩:=s;obtain⟨t1,t2,⟨⟩⟩:=t;rw[xP];simp
       rw[e];cases s.1==(y.getD j zSh).1 <;> cases s.2.1==(y.getD j zSh).2.1 <;> rfl)
      (fun rec2=>by
       rw[aC3];simp only[dlt hlt,dge,aG,aA,aL,getD_some hk,aU,aB,hw]) 1000001 (by omega)
     refine inner.trans ?_;have e:iW (fun j s=>s==y.getD j zSh) 0 x=(x==y):=by
      rw[xP,aAF];constructor
      ·intro hh;have:x=y:=aPh zSh x y hxy fun j hj=>by
        have:=hh j x[j] (aX hj);rw[cG] at this;rw[getD_some (aX hj)];exact this
       rw[this];simp
      ·intro hh j s hj;have:x=y:=by simpa using hh
       subst this;rw[cG,getD_some hj];simp
     rw[e]
    ·have e2:((x.length:Int) !=(y.length:Int))=true:=by simp;omega
     have e3:(x==y)=false:=by
      cases hh:x==y
      ·rfl
      ·exact absurd (dP List.length (by simpa using hh)) hxy
     simp only[e2,e3,aA,aB])
   (fun rec=>by rw[aC2];simp only[aU,aB]) 1000001 (by omega)
  refine key.trans ?_;have e:iW (fun j s=>s==b.getD j []) 0 a=(a==b):=by
   rw[xP,aAF];constructor
   ·intro hh;have:a=b:=aPh [] a b hl fun j hj=>by
     have:=hh j a[j] (aX hj);rw[cG] at this;rw[getD_some (aX hj)];exact this
    rw[this];simp
   ·intro hh j s hj;have:a=b:=by simpa using hh
    subst this;rw[cG,getD_some hj];simp
  rw[e];cases a==b <;> rfl
 ·have e1:((a.length:Int) !=(b.length:Int))=true:=by simp;omega
  have e3:(a==b)=false:=by
   cases hh:a==b
   ·rfl
   ·exact absurd (dP List.length (by simpa using hh)) hl
  simp only[e1,e3,aA]
end Go.Pli

/- All of layer 13 to 16's functions. -/
