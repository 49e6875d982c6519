/- Sums: the printed functions come to what is told in plain Lean. -/
import Derived.Test.YtcofionghgmldaaGreatPliL11
import Derived.Lib.Mul64
namespace Go.Pli
open Go Go.PM
theorem aJ7 (n:Nat):IntKind.u64.wrap (n:Int)=((n % 18446744073709551616:Nat):Int):=by
 rw[IntKind.wrap_u64];omega
theorem aPR (n:Nat):(n:Int).fdiv 4294967296=((n/4294967296:Nat):Int):=by
 rw[Int.fdiv_eq_ediv_of_nonneg _ (by omega)];rfl
theorem aOk (n:Nat):(((BitVec.ofInt 64 (n:Int)&&&BitVec.ofInt 64 4294967295).toNat:Nat):Int)=((n % 4294967296:Nat):Int):=by
 have h1:(BitVec.ofInt 64 (n:Int)).toNat=n % 18446744073709551616:=by
  rw[BitVec.toNat_ofInt];omega
 have h2:(BitVec.ofInt 64 4294967295).toNat=2 ^ 32 - 1:=by decide
 rw[BitVec.toNat_and,h1,h2,Nat.and_two_pow_sub_one_eq_mod]
 congr 1
 omega
theorem aNV (x y:Int) (r) (h:uY x y=some r):aGK x y=some r:=by
 unfold uY at h
 cases hb:inU x&&inU y <;> simp only[hb,aA,aB] at h
 ·cases h
 injection h with h
 subst h
 simp only[inU,aC,aO] at hb
 obtain⟨⟨x0,x1⟩,y0,y1⟩:=hb
 obtain⟨a,rfl⟩:∃a:Nat,x=a:=⟨x.toNat,by omega⟩
 obtain⟨b,rfl⟩:∃b:Nat,y=b:=⟨y.toNat,by omega⟩
 have ha:a<18446744073709551616:=by omega
 have hb:b<18446744073709551616:=by omega
 obtain⟨h1,h2,h3,h4⟩:=Lib.mul64_hi a b ha hb
 have ma:a % 4294967296 % 18446744073709551616=a % 4294967296:=iC (by omega)
 have mb:b % 4294967296 % 18446744073709551616=b % 4294967296:=iC (by omega)
 unfold aGK
 simp only[aPR,aOk,aJ7,←Int.natCast_mul,←Int.natCast_add,ma,mb]
 have e1:a % 4294967296*(b % 4294967296) % 18446744073709551616=a % 4294967296*(b % 4294967296):=iC h1
 simp only[e1]
 have p1:=Lib.half_mul_le (a:=a/4294967296) (b:=b % 4294967296) (by omega) (by omega)
 have e2:a/4294967296*(b % 4294967296) % 18446744073709551616=a/4294967296*(b % 4294967296):=iC (by omega)
 simp only[e2]
 have e3:=iC h2
 simp only[e3]
 have p2:=Lib.half_mul_le (a:=a % 4294967296) (b:=b/4294967296) (by omega) (by omega)
 have e4:a % 4294967296*(b/4294967296) % 18446744073709551616=a % 4294967296*(b/4294967296):=iC (by omega)
 have e5:∀t:Nat,t % 4294967296 % 18446744073709551616=t % 4294967296:=fun t=>iC (by omega)
 simp only[e4,e5]
 have e6:=iC h3
 simp only[e6]
 have p3:=Lib.half_mul_le (a:=a/4294967296) (b:=b/4294967296) (by omega) (by omega)
 have e7:a/4294967296*(b/4294967296) % 18446744073709551616=a/4294967296*(b/4294967296):=iC (by omega)
 simp only[e7]
 have hq:a*b/18446744073709551616<18446744073709551616:=by
  have:=Nat.mul_le_mul (show a≤18446744073709551615 by omega) (show b≤18446744073709551615 by omega)
  omega
 have e8:(a/4294967296*(b/4294967296)+(a/4294967296*(b % 4294967296)+a % 4294967296*(b % 4294967296)/4294967296)/4294967296) % 18446744073709551616=a/4294967296*(b/4294967296)+(a/4294967296*(b % 4294967296)+a % 4294967296*(b % 4294967296)/4294967296)/4294967296:=iC (by omega)
 simp only[e8,h4]
 rw[iC hq]
 rfl
theorem aOv (n:Int):aHh n=some (lof n,()):=by
 unfold aHh lof
 cases decide (n> -4611686018427387904) <;> rfl
theorem aOo (n:Int):aHa n=some (dS n,()):=by
 unfold aHa dS
 cases decide (n<0) <;> rfl
theorem aOq (a b:Sure) (r) (h:yP a b=some r):aHb a b=some r:=by
 rw[←h]
 unfold aHb yP uS
 cases a.2.1 <;> cases b.2.1 <;> rfl
theorem aG9 (n:Int):inU (dS n)=true:=by
 unfold dS inU
 cases decide (n<0) <;> simp only[aA,aB,aC,aO,IntKind.wrap_u64] <;> omega
theorem aOm (a b:Sure) (r) (h:yO a b=some r):aG8 a b=some r:=by
 rw[←h]
 have hm:uY (dS a.1) (dS b.1)=some (dS a.1*dS b.1/18446744073709551616,dS a.1*dS b.1 % 18446744073709551616,()):=by
  unfold uY;rw[aG9,aG9];rfl
 unfold aG8 yO tT
 rw[hm]
 generalize dS a.1*dS b.1/18446744073709551616=u
 generalize dS a.1*dS b.1 % 18446744073709551616=v
 cases a.2.1 <;> cases b.2.1 <;> simp only[aY,cA,aI,zV,zW,aA,aB,aJ]
 by_cases hu:u=0
 ·have:(u !=0)=false:=by simp[hu]
  simp only[hu,ne_eq,not_true_eq_false,bJ,jK]
  cases decide (v≥4611686018427387904) <;> rfl
 ·have:(u !=0)=true:=by simp[hu]
  simp only[this,hu,ne_eq,not_false_eq_true,aM,rB,aA]
theorem aEK (p:Int×Int):∀(l:List (Int×Int)) (a:Sure),lL (l++[p]) a=uS (lL l a) (tT (lof p.1) (lof p.2))
 | [],_=>rfl
 | _::l,_=>aEK p l _
theorem aOB (q:Iq) (v:List Int) (r) (h:vK q v=some r):∃k,aHn k q v=some r:=by
 unfold vK at h
 cases hb:okL q.1 <;> simp only[hb,aA,aB] at h
 ·cases h
 injection h with h
 subst h
 have hl:=hJ hb
 refine⟨q.1.length+1,?_⟩
 unfold aHn mD
 by_cases he:q.1.length=v.length
 ·have e1:((q.1.length:Int) !=(v.length:Int))=false:=by rw[he];simp
  have e2:decide (q.1.length≠v.length)=false:=by simp[he]
  simp only[e1,e2,aB]
  have:=sH (L:=aA8 q v) (n:=q.1.length) (st:=fun k=>((k:Int),lL ((q.1.zip v).take k) (lof 0),())) (fin:=some (aBg q.2.1 (lL (q.1.zip v) (lof 0))))
   (fun k rec hk=>by
    have hv:k<v.length:=by omega
    have hz:(q.1.zip v)[k]? =some (q.1.getD k 0,v.getD k 0):=by
     rw[aU (show k<(q.1.zip v).length by rw[List.length_zip];omega)]
     simp[hk,hv]
    rw[aA8]
    simp only[dlt hk,dlt hv,dge,aI,aA,aR,bH hk (show _≤lenMax by simp only[lenMax];omega),yO,yP,aJ]
    rw[qV,hz]
    show _=rec (_,lL ((q.1.zip v).take k++[(q.1.getD k 0,v.getD k 0)]) (lof 0),())
    rw[aEK])
   (fun rec=>by
    have:(q.1.zip v).take q.1.length=q.1.zip v:=List.take_of_length_le (by rw[List.length_zip];omega)
    rw[aA8]
    simp only[bT,aB,this,aBg]
    cases (lL (q.1.zip v) (lof 0)).2.1 <;> rfl) (q.1.length+1) (by omega)
  exact this
 ·have e1:((q.1.length:Int) !=(v.length:Int))=true:=by simp;omega
  have e2:decide (q.1.length≠v.length)=true:=by simp[he]
  simp only[e1,e2,aA]
end Go.Pli

namespace Go.Pli
open Go Go.PM
theorem aNc (l:List (List Sh)) (f pc:Int) (r) (h:oH l f pc=some r):aGb l f pc=some r:=by
 unfold oH at h
 cases hb:decide (0≤f)&&decide (0≤pc) <;> simp only[hb,aA,aB] at h
 ·cases h
 injection h with h
 subst h
 simp only[aC,aO] at hb
 unfold aGb bQ
 by_cases h1:f≥(l.length:Int)
 ·have e:l.getD f.toNat []=[]:=gK (by omega)
  simp only[h1,aM,aA,e]
  rfl
 ·have h1':f<(l.length:Int):=by omega
  simp only[h1,h1',hb.1,aM,bJ,aI,aA,aB]
  by_cases h2:pc≥((l.getD f.toNat []).length:Int)
  ·have e:(l.getD f.toNat []).getD pc.toNat zSh=zSh:=gK (by omega)
   simp only[h2,aM,aA,e]
  ·have h2':pc<((l.getD f.toNat []).length:Int):=by omega
   simp only[h2,h2',hb.2,aM,bJ,aI,aA,aB]
theorem aNv (m:Im) (i:Ins) (r) (h:lR m i=some r):∃k,aGm k m i=some r:=by
 unfold lR at h
 cases hi:cC m <;> simp only[hi,aA,aB] at h
 ·cases h
 injection h with h
 subst h
 have htl:=xA hi i
 have h12:=(dA hi).methods
 have hfl:=aBp hi i.2.1
 have ht:oZ m i=some (cP m i,()):=by unfold oZ;rw[hi];rfl
 refine⟨1001,?_⟩
 have hc:vZ m i.2.1=some (pQ m i.2.1,()):=by unfold vZ;rw[hi];rfl
 unfold aGm jY
 rw[hc,ht]
 cases i.1==22 <;> cases i.1==23 <;> simp only[aA,aB,aJ]
 have:=sH (L:=aAS m (cP m i,())) (n:=(cP m i).length) (st:=fun k=>(kQ ((((cP m i).take k).filter (inM m)).map (dV m)),(k:Int),())) (fin:=some (kQ (((cP m i).filter (inM m)).map (dV m)),()))
  (fun k rec hk=>by
   have hw:=bH hk (show _≤lenMax by simp only[lenMax];omega)
   have hx:(cP m i)[k]? =some (cP m i)[k]:=aU hk
   have fold:∀g:Int,m.2.2.2.1.getD g.toNat zMt=aD m g:=fun _=>rfl
   rw[aAS]
   simp only[dlt hk,dge,aI,aA,aR,getD_some hx,hw,fold]
   rw[qV,hx]
   generalize (cP m i)[k]=g
   by_cases h0:g≥0
   ·by_cases h1:g<(m.2.2.2.1.length:Int)
    ·have hin:inM m g=true:=bS.2 ⟨h0,h1⟩
     have h0':0≤g:=h0
     simp only[h0,h1,aM,aI,aA,Option.toList_some,List.filter_append,List.filter_cons,List.filter_nil,hin,cL,jG,dI,List.map_nil]
     unfold kQ
     rw[List.foldl_append]
     rfl
    ·have hin:inM m g=false:=by
      cases hh:inM m g
      ·rfl
      ·exact absurd (bS.1 hh).2 h1
     simp only[h0,h1,aM,bJ,aA,aB,Option.toList_some,List.filter_append,List.filter_cons,List.filter_nil,hin,kC,cI,bY]
   ·have hin:inM m g=false:=by
     cases hh:inM m g
     ·rfl
     ·exact absurd (bS.1 hh).1 h0
    simp only[h0,bJ,aB,Option.toList_some,List.filter_append,List.filter_cons,List.filter_nil,hin,kC,cI,bY])
  (fun rec=>by
   rw[aAS]
   simp only[bT,aB,iD]) 1001 (by omega)
 exact this
theorem aCC {n a b c:Int} (h0:0≤n) (h1:n<1000000) (ha:a<n) (hb:b<n):pU n a b c=some (dQ n a b c,()):=by
 unfold pU
 rw[aG h0,aG ha,aG hb,aJD (show n.toNat<1000000 by omega)]
 rfl
theorem aNe (n a b c:Int) (r) (h:pU n a b c=some r):aGe n a b c=some r:=by
 unfold pU at h
 cases hh:decide (0≤n)&&(Nat.blt n.toNat 1000000&&(decide (a<n)&&decide (b<n))) <;> simp only[hh,aA,aB] at h
 ·cases h
 injection h with h
 subst h
 simp only[aC,aO,fJ] at hh
 obtain⟨n0,n1,an,bn⟩:=hh
 have e0:decide (n≤n)=true:=aG (by omega)
 have e1:decide (n<(rowMax:Int))=true:=aG (by simp only[rowMax];omega)
 have en:((n.toNat:Nat):Int)=n:=by omega
 unfold aGe dQ gY
 simp only[n0,e0,e1,aM,aI,aA,dE,tH,en,an,bn,zV]
 by_cases ha:a≥0 <;> by_cases hb:b≥0
 ·have ha':0≤a:=ha
  have hb':0≤b:=hb
  simp only[ha,hb,aM,aA]
  rfl
 ·have ha':0≤a:=ha
  simp only[ha,hb,aM,bJ,aA,aB]
  rfl
 ·have hb':0≤b:=hb
  simp only[ha,hb,aM,bJ,aA,aB]
 ·simp only[ha,hb,bJ,aB]
theorem aOW (l:List Int) (c:Unit) (h:aOZ l c):∃k,aOY k l c=some (aBa l c,()):=by
 refine⟨l.length+1,aC9 (st:=fun k=>((k:Int),())) (p:=oJ) (fun k x rec hk hlt=>?_) (fun rec=>?_) _ (gN _)⟩
 ·unfold aDs
  simp only[dlt hlt,dge,aI,aA,aR,getD_some hk,bH hlt h.1.1]
  rfl
 ·unfold aDs
  simp only[bT,aB]
theorem aQu (l:List Int) (c:Unit) (_:aQw l c):aIP l c=some (zG l c,()):=by
 unfold aIP aBa zG
 rw[aBc]
theorem aFc (m:Im) (l:List (List Sh)) (f pc:Int):(kK m l f pc).length≤3:=by
 have h2:(aN m f pc (bQ l f pc).2.1).2.1.length≤2:=tW ..
 unfold kK
 cases !(bQ l f pc).1 <;> simp only[aA,aB]
 ·cases (aN m f pc (bQ l f pc).2.1).2.2.1 !=0 <;> simp only[aA,aB]
  ·rw[aW,qZ]
   cases decide ((aN m f pc (bQ l f pc).2.1).2.1.length=0) <;> simp only[aA,aB,aF,bP] <;> omega
  ·simp
 ·simp
theorem aE1 {l:List (List Sh)} (h:fC l=true) (f pc:Int):okL (bQ l f pc).2.1=true:=by
 unfold bQ
 by_cases h1:f.toNat<l.length
 ·obtain⟨-,h2⟩:=aGE h h1
  by_cases h3:pc.toNat<(l.getD f.toNat []).length
  ·rw[getD_some (aU h3)]
   exact fD (h2 _ (eC h3))
  ·rw[gK (by omega)];rfl
 ·rw[gK (show l.length≤f.toNat by omega)];rfl
theorem aLS {m:Im} (hs:aK m=true) {f:Int} (hf:inM m f=true) {k:Nat} (hk:k<codeN m f) {S:St4} (h2:S.2.1.length≤2) (hto:∀to∈S.2.1,0≤to∧to<(codeN m f:Int)) {o:List Iq} {rec:(List Iq×Int×Unit)→Option (List Iq×Unit)} {F:Nat} (hF:1000<F) (pre:List Iq) (hpre:pre.length<1000000):
  aE (yB m f S (o,(k:Int),()) rec) F (pre,(0:Int),())=rec (pre++S.2.1.map (fun to=>dQ (codeN m f:Int) (k:Int) to (IntKind.i64.wrap (0 - jY m (aH m f (k:Int))))),((k+1:Nat):Int),()):=by
 have hc:=eW hs hf
 have hw:=bH hk (show _≤lenMax by simp only[lenMax];omega)
 have fold:∀g:Int,m.2.2.2.1.getD g.toNat zMt=aD m g:=fun _=>rfl
 have fold3:(aD m f).2.2.2.1.length=codeN m f:=rfl
 have fold2:(aD m f).2.2.2.1.getD k cT=aH m f (k:Int):=rfl
 have hcost:lR m (aH m f (k:Int))=some (jY m (aH m f (k:Int)),()):=by unfold lR;rw[(dL hs).1];rfl
 generalize hR:S.2.1.map (fun to=>dQ (codeN m f:Int) (k:Int) to (IntKind.i64.wrap (0 - jY m (aH m f (k:Int)))))=R
 have hRl:R.length=S.2.1.length:=by rw[←hR,qZ]
 have:=sH (L:=yB m f S (o,(k:Int),()) rec) (n:=S.2.1.length) (st:=fun j=>(pre++R.take j,(j:Int),()))
  (fin:=rec (pre++R,((k+1:Nat):Int),()))
  (fun j rec2 hj=>by
   have hx:S.2.1[j]? =some S.2.1[j]:=aU hj
   obtain⟨t0,t1⟩:=hto _ (eC hj)
   have hxR:R[j]? =some (dQ (codeN m f:Int) (k:Int) S.2.1[j] (IntKind.i64.wrap (0 - jY m (aH m f (k:Int))))):=by
    rw[←hR,lH,hx]
    rfl
   have hroom:decide ((pre++R.take j).length+(0+1)<rowMax)=true:=lP (by rw[aW,bU];omega)
   rw[yB]
   simp only[fold,fold3,aR,fold2,dlt hj,dge,aI,aA,getD_some hx]
   rw[hcost,aJ,aCC (by omega) (by omega) (by omega) (by omega),aJ]
   simp only[aF,bP,hroom,aA,bH hj (show _≤lenMax by simp only[lenMax];omega)]
   rw[qV,hxR,cE]
   rfl)
  (fun rec2=>by
   rw[yB]
   simp only[bT,aB,hw]
   rw[List.take_of_length_le (by omega)]) F (by omega)
 rw[List.take_zero,bY] at this
 exact this
theorem aNd (m:Im) (l:List (List Sh)) (f:Int) (r) (h:rX m l f=some r):∃k,aGd k m l f=some r:=by
 unfold rX at h
 cases hb:aK m&&fC l <;> simp only[hb,aA,aB] at h
 ·cases h
 injection h with h
 subst h
 simp only[aC] at hb
 obtain⟨hs,hl⟩:=hb
 obtain⟨F,hF⟩:∃F:Nat,1000<F:=⟨1001,by omega⟩
 refine⟨F,?_⟩
 have fold:∀g:Int,m.2.2.2.1.getD g.toNat zMt=aD m g:=fun _=>rfl
 have fold3:(aD m f).2.2.2.1.length=codeN m f:=rfl
 have fold4:(aD m f).2.2.2.2.2.1=dV m f:=rfl
 unfold aGd jQ
 simp only[fold,fold3,fold4]
 cases hf:inM m f
 ·simp only[aB]
  have:¬(0≤f∧f<(m.2.2.2.1.length:Int)):=fun hh=>by rw[bS.2 hh] at hf;cases hf
  by_cases h0:f<0
  ·simp only[h0,aM,aA]
  ·have h1:f≥(m.2.2.2.1.length:Int):=by omega
   simp only[h0,h1,aM,bJ,aA,aB]
 obtain⟨f0,f1⟩:=bS.1 hf
 have f2:¬f<0:=by omega
 have f3:¬f≥(m.2.2.2.1.length:Int):=by omega
 have hc:=eW hs hf
 have hc0:((codeN m f:Int)==0)=false:=qR.2 (by omega)
 rw[bA f2,aB,bA f3,aB,aG f0,aG f1,aI,aA,hc0,aB,aA,aA,aA]
 rw[aCC (by omega) (by omega) (by omega) (by omega),aJ]
 have:=yQ (L:=aAK m l f F) (n:=codeN m f) (B:=3) (st:=fun k out=>(dQ (codeN m f:Int) (-1) 0 (dV m f)::out,(k:Int),())) (f:=fun k=>kK m l f (k:Int)) (fin:=fun out=>some (dQ (codeN m f:Int) (-1) 0 (dV m f)::out,()))
  (fun k _=>aFc ..)
  (fun k out rec hk ho=>by
   have hw:=bH hk (show _≤lenMax by simp only[lenMax];omega)
   have hp:oH l f (k:Int)=some (bQ l f (k:Int),()):=by unfold oH;simp only[f0,dge,aM,aI,aA]
   have hst:oV m f (k:Int) (bQ l f (k:Int)).2.1=some (aN m f (k:Int) (bQ l f (k:Int)).2.1):=by unfold oV;rw[hs,aE1 hl];rfl
   have fold2:(aD m f).2.2.2.1.getD k cT=aH m f (k:Int):=rfl
   have d1:decide ((k:Int)<(((aD m f).2.2.2.1.length:Nat):Int))=true:=dlt hk
   rw[aAK]
   dsimp only
   rw[fold,d1,aA,dge,zV,aA,hp,aJ]
   dsimp only
   cases h1:(bQ l f (k:Int)).1
   case false=>
    rw[cA,aA,hw]
    simp only[kK,h1,cA,aA,bY]
   rw[aY,aB,hst,aJ]
   have h2:(aN m f (k:Int) (bQ l f (k:Int)).2.1).2.1.length≤2:=tW ..
   cases h3:(aN m f (k:Int) (bQ l f (k:Int)).2.1).2.2.1 !=0
   case true=>
    rw[aA,hw]
    simp only[kK,h1,h3,aY,aB,aA,bY]
   obtain⟨-,-,-,hto⟩:=lM hs (f:=f) (pc:=(k:Int)) (s:=(bQ l f (k:Int)).2.1) (by simpa using h3)
   rw[aB]
   have hrule:kK m l f (k:Int)=(bif decide ((aN m f (k:Int) (bQ l f (k:Int)).2.1).2.1.length=0) then[dQ (codeN m f:Int) (k:Int) (-1) 0] else[])++(aN m f (k:Int) (bQ l f (k:Int)).2.1).2.1.map fun to=>dQ (codeN m f:Int) (k:Int) to (IntKind.i64.wrap (0 - jY m (aH m f (k:Int)))):=by simp only[kK,h1,h3,aY,aB]
   rw[hrule]
   generalize hS:aN m f (k:Int) (bQ l f (k:Int)).2.1=S at h2 h3 hto
   have inner:=aLS hs hf hk h2 hto (o:=dQ (codeN m f:Int) (-1) 0 (dV m f)::out) (rec:=rec) hF
   by_cases h0:S.2.1.length=0
   ·have e1:((S.2.1.length:Int)==0)=true:=by rw[h0];rfl
    have e2:decide (S.2.1.length=0)=true:=aG h0
    have hroom:decide ((dQ (codeN m f:Int) (-1) 0 (dV m f)::out).length+(0+1)<rowMax)=true:=lP (by simp only[aF];omega)
    rw[e1,e2,aA,aA]
    rw[fold3,aCC (by omega) (by omega) (by omega) (by omega),aJ]
    have e3:∀q:Iq,([q]:List Iq).length=0+1:=fun _=>rfl
    rw[e3,hroom,aA,aJ]
    refine (inner (dQ (codeN m f:Int) (-1) 0 (dV m f)::out++[dQ (codeN m f:Int) (k:Int) (-1) 0]) (by rw[aW,aF,aF,bP];omega)).trans ?_
    rw[cE,rA]
   ·have e1:((S.2.1.length:Int)==0)=false:=qR.2 (by omega)
    have e2:decide (S.2.1.length=0)=false:=bA h0
    rw[e1,e2,aB,aB,aJ]
    refine (inner (dQ (codeN m f:Int) (-1) 0 (dV m f)::out) (by rw[aF];omega)).trans ?_
    rw[rA,pI])
  (fun out rec _=>by
   rw[aAK]
   simp only[fold,fold3,bT,aB,idL]) F (by omega)
 exact this
theorem aLU {m:Im} (hs:aK m=true) (l:List (List Sh)) (f:Int):(jQ m l f).length≤1000:=by
 unfold jQ
 cases hf:inM m f <;> simp only[aA,aB]
 ·simp
 have hc:=eW hs hf
 have key:∀n:Nat,(((List.range n).map fun k:Nat=>kK m l f (k:Int)).flatten).length≤3*n:=by
  intro n
  induction n with
  | zero=>simp
  | succ n ih=>
   have:=aFc m l f (n:Int)
   rw[List.range_succ,jG,lI,aW]
   simp only[dI,List.map_nil,fW,jH,bY]
   omega
 have:=key (codeN m f)
 rw[aF]
 omega
theorem aLV {m:Im} (l:List (List Sh)) (f:Int):∀q∈jQ m l f,q.1.length=codeN m f:=by
 have hr:∀a b c:Int,(dQ (codeN m f:Int) a b c).1.length=codeN m f:=by
  intro a b c
  unfold dQ gY
  cases decide (a≥0) <;> cases decide (b≥0) <;> simp
 intro q hq
 unfold jQ at hq
 cases hf:inM m f <;> simp only[hf,aA,aB] at hq
 ·cases hq
 rcases bZ.1 hq with rfl | hq
 ·exact hr ..
 simp only[pJ,fU] at hq
 obtain⟨x,⟨k,-,rfl⟩,hq⟩:=hq
 unfold kK at hq
 cases h1: !(bQ l f (k:Int)).1 <;> simp only[h1,aA,aB] at hq
 ·cases h2:(aN m f (k:Int) (bQ l f (k:Int)).2.1).2.2.1 !=0 <;> simp only[h2,aA,aB] at hq
  ·rw[cR] at hq
   rcases hq with hq | hq
   ·cases h3:decide ((aN m f (k:Int) (bQ l f (k:Int)).2.1).2.1.length=0) <;> simp only[h3,aA,aB] at hq
    ·cases hq
    ·rw[eE] at hq;subst hq;exact hr ..
   ·obtain⟨t,-,rfl⟩:=fU.1 hq
    exact hr ..
  ·cases hq
 ·cases hq
theorem aGn {m:Im} {l:List (List Sh)} (hs:aK m=true) (hl:fC l=true):∀(j k F:Nat),k+j=m.2.2.2.1.length→j<F→aE (uW m l 1001) F ((k:Int),())=some (pW m l ((List.range' k j).map fun n:Nat=>(n:Int)))
 | 0,k,F,hk,hF=>by
  obtain⟨F,rfl⟩:∃n,F=n+1:=⟨F - 1,by omega⟩
  have:k=m.2.2.2.1.length:=by omega
  subst this
  rw[aX,uW]
  simp only[bT,aB]
  rfl
 | j+1,k,F,hk,hF=>by
  obtain⟨F,rfl⟩:∃n,F=n+1:=⟨F - 1,by omega⟩
  have h12:=(dA (dL hs).1).methods
  have hlt:k<m.2.2.2.1.length:=by omega
  have hin:inM m (k:Int)=true:=bS.2 ⟨by omega,by omega⟩
  have hc:=eW hs hin
  have hw:=bH hlt (show _≤lenMax by simp only[lenMax];omega)
  have fold:∀g:Nat,m.2.2.2.1.getD g zMt=aD m (g:Int):=fun _=>rfl
  have fold4:(aD m (k:Int)).2.2.2.2.2.2.1=cZ m (k:Int):=rfl
  have hr:rX m l (k:Int)=some (jQ m l (k:Int),()):=by unfold rX;rw[hs,hl];rfl
  have hrl:=aLU hs l (k:Int)
  rw[aX,uW]
  simp only[dlt hlt,dge,aI,aA,hr,aJ]
  have key:=lX (L:=aAT m ((k:Int),()) (aE (uW m l 1001) F) (jQ m l (k:Int),())) (xs:=jQ m l (k:Int)) (st:=fun j=>((j:Int),())) (p:=nI m (k:Int)) (ex:=some ((k:Int),6,())) (fin:=bif (cZ m (k:Int)).any oJ then some ((k:Int),6,()) else aE (uW m l 1001) F (((k+1:Nat):Int),()))
   (fun j q rec hj hjl=>by
    have hh:vK q (cZ m (k:Int))=some (mD q (cZ m (k:Int))):=by
     have:=aLV (m:=m) l (k:Int) q (jF hj)
     unfold vK;rw[fD (by omega)];rfl
    rw[aAT]
    simp only[dlt hjl,dge,aI,aA,aR,getD_some hj,fold,fold4,hh,aJ,bH hjl (show _≤lenMax by simp only[lenMax];omega),nI]
    by_cases he:(mD q (cZ m (k:Int))).2.1=0
    ·have:((mD q (cZ m (k:Int))).2.1 !=0)=false:=by simp[he]
     simp only[he,aM,eD]
     cases (mD q (cZ m (k:Int))).1 <;> rfl
    ·have:((mD q (cZ m (k:Int))).2.1 !=0)=true:=by simp[he]
     simp only[this,he,bJ,kD,aA,aB])
   (fun rec=>by
    rw[aAT]
    simp only[bT,aB,aR,fold,fold4,zG,hw]) 1001 (by omega)
  refine key.trans ?_
  rw[List.range'_succ,dI,pW]
  cases (jQ m l (k:Int)).all (nI m (k:Int)) <;> simp only[aA,aB]
  cases (cZ m (k:Int)).any oJ <;> simp only[aA,aB]
  exact aGn hs hl j (k+1) F (by omega) (by omega)
theorem aNw (m:Im) (l:List (List Sh)) (r) (h:kM m l=some r):∃k,aGp k m l=some r:=by
 unfold kM at h
 cases hb:aK m&&fC l <;> simp only[hb,aA,aB] at h
 ·cases h
 injection h with h
 subst h
 simp only[aC] at hb
 have h12:=(dA (dL hb.1).1).methods
 refine⟨1001,?_⟩
 unfold aGp
 rw[show ints m.2.2.2.1.length=(List.range' 0 m.2.2.2.1.length).map fun n:Nat=>(n:Int) by rw[←List.range_eq_range'];rfl]
 exact aGn hb.1 hb.2 m.2.2.2.1.length 0 1001 (by omega) (by omega)
theorem aM9 (m:Im) (i:Ins) (r) (h:rV m i=some r):∃k,aF4 k m i=some r:=by
 unfold rV at h
 cases hb:cC m&&(cP m i).all (inM m) <;> simp only[hb,aA,aB] at h
 ·cases h
 injection h with h
 subst h
 simp only[aC,bG] at hb
 obtain⟨hi,hin⟩:=hb
 have htl:=xA hi i
 have h12:=(dA hi).methods
 have hfl:=aBp hi i.2.1
 have ht:uF m i=some (cP m i,()):=by unfold uF;rw[hi];rfl
 have hc:iI m i.2.1=some (dM m i.2.1,()):=by unfold iI;rw[hi];rfl
 refine⟨1001,?_⟩
 unfold aF4 kL
 rw[hc,ht]
 cases i.1==22 <;> cases i.1==23 <;> simp only[aA,aB,aJ]
 ·have:=sH (L:=aAJ m (cP m i,())) (n:=(cP m i).length) (st:=fun k=>(kQ (((cP m i).take k).map (dV m)),(k:Int),())) (fin:=some (kQ ((cP m i).map (dV m)),()))
   (fun k rec hk=>by
    have hw:=bH hk (show _≤lenMax by simp only[lenMax];omega)
    have hx:(cP m i)[k]? =some (cP m i)[k]:=aU hk
    obtain⟨g0,g1⟩:=bS.1 (hin _ (eC hk))
    have fold:∀g:Int,m.2.2.2.1.getD g.toNat zMt=aD m g:=fun _=>rfl
    have fold4:∀g,(aD m g).2.2.2.2.2.1=dV m g:=fun _=>rfl
    rw[aAJ]
    simp only[dlt hk,dge,aI,aA,aR,getD_some hx,hw,fold,fold4,g0,g1,aM]
    rw[qV,hx]
    generalize (cP m i)[k]=g
    have hm:kQ (((cP m i).take k++(some g).toList).map (dV m))=max (kQ (((cP m i).take k).map (dV m))) (dV m g):=by
     unfold kQ
     rw[jG,List.foldl_append]
     rfl
    rw[hm]
    by_cases hgt:dV m g>kQ (((cP m i).take k).map (dV m))
    ·rw[aG hgt,Int.max_eq_right (by omega)];rfl
    ·rw[bA hgt,Int.max_eq_left (by omega)];rfl)
   (fun rec=>by
    rw[aAJ]
    simp only[bT,aB,iD]) 1001 (by omega)
  exact this
 ·unfold pQ
  rw[cO (by omega) (by omega)]
  simp
 ·unfold pQ
  rw[cO (by omega) (by omega)]
  simp
end Go.Pli

/- All of layer 13 to 16's functions. -/
