/- Sums: the printed functions come to what is told in plain Lean. -/
import Derived.Test.YtcofionghgmldaaGreatPliL11
import Derived.Lib.Mul64
namespace Go.Pli
open Go Go.PM
theorem aJX (n:Nat):IntKind.u64.wrap (n:Int)=((n % 18446744073709551616:Nat):Int):=by
 rw[IntKind.wrap_u64];omega
theorem aPK (n:Nat):(n:Int).fdiv 4294967296=((n/4294967296:Nat):Int):=by
 rw[Int.fdiv_eq_ediv_of_nonneg _ (by omega)];rfl
theorem aOf (n:Nat):(((BitVec.ofInt 64 (n:Int)&&&BitVec.ofInt 64 4294967295).toNat:Nat):Int)=((n % 4294967296:Nat):Int):=by
 have h1:(BitVec.ofInt 64 (n:Int)).toNat=n % 18446744073709551616:=by
  rw[BitVec.toNat_ofInt];omega
 have h2:(BitVec.ofInt 64 4294967295).toNat=2 ^ 32 - 1:=by decide
 rw[BitVec.toNat_and,h1,h2,Nat.and_two_pow_sub_one_eq_mod]
 congr 1
 omega
theorem aNS (x y:Int) (r) (h:uP x y=some r):aGG x y=some r:=by
 unfold uP at h
 cases hb:inU x&&inU y <;> simp only[hb,aA,aB] at h
 ·cases h
 injection h with h
 subst h
 simp only[inU,aC,aP] at hb
 obtain⟨⟨x0,x1⟩,y0,y1⟩:=hb
 obtain⟨a,rfl⟩:∃a:Nat,x=a:=⟨x.toNat,by omega⟩
 obtain⟨b,rfl⟩:∃b:Nat,y=b:=⟨y.toNat,by omega⟩
 have ha:a<18446744073709551616:=by omega
 have hb:b<18446744073709551616:=by omega
 obtain⟨h1,h2,h3,h4⟩:=Lib.mul64_hi a b ha hb
 have ma:a % 4294967296 % 18446744073709551616=a % 4294967296:=iC (by omega)
 have mb:b % 4294967296 % 18446744073709551616=b % 4294967296:=iC (by omega)
 unfold aGG
 simp only[aPK,aOf,aJX,←Int.natCast_mul,←Int.natCast_add,ma,mb]
 have e1:a % 4294967296*(b % 4294967296) % 18446744073709551616=a % 4294967296*(b % 4294967296):=iC h1
 simp only[e1]
 have p1:=Lib.half_mul_le (a:=a/4294967296) (b:=b % 4294967296) (by omega) (by omega)
 have e2:a/4294967296*(b % 4294967296) % 18446744073709551616=a/4294967296*(b % 4294967296):=iC (by omega)
 simp only[e2]
 have e3:=iC h2
 simp only[e3]
 have p2:=Lib.half_mul_le (a:=a % 4294967296) (b:=b/4294967296) (by omega) (by omega)
 have e4:a % 4294967296*(b/4294967296) % 18446744073709551616=a % 4294967296*(b/4294967296):=iC (by omega)
 have e5:∀t:Nat,t % 4294967296 % 18446744073709551616=t % 4294967296:=fun t=>iC (by omega)
 simp only[e4,e5]
 have e6:=iC h3
 simp only[e6]
 have p3:=Lib.half_mul_le (a:=a/4294967296) (b:=b/4294967296) (by omega) (by omega)
 have e7:a/4294967296*(b/4294967296) % 18446744073709551616=a/4294967296*(b/4294967296):=iC (by omega)
 simp only[e7]
 have hq:a*b/18446744073709551616<18446744073709551616:=by
  have:=Nat.mul_le_mul (show a≤18446744073709551615 by omega) (show b≤18446744073709551615 by omega)
  omega
 have e8:(a/4294967296*(b/4294967296)+(a/4294967296*(b % 4294967296)+a % 4294967296*(b % 4294967296)/4294967296)/4294967296) % 18446744073709551616=a/4294967296*(b/4294967296)+(a/4294967296*(b % 4294967296)+a % 4294967296*(b % 4294967296)/4294967296)/4294967296:=iC (by omega)
 simp only[e8,h4]
 rw[iC hq]
 rfl
theorem aOo (n:Int):aHe n=some (lof n,()):=by
 unfold aHe lof
 cases decide (n> -4611686018427387904) <;> rfl
theorem aOi (n:Int):aG6 n=some (fD n,()):=by
 unfold aG6 fD
 cases decide (n<0) <;> rfl
theorem aOk (a b:Sure) (r) (h:yL a b=some r):aG7 a b=some r:=by
 rw[←h]
 unfold aG7 yL aAC
 cases a.2.1 <;> cases b.2.1 <;> rfl
theorem aG5 (n:Int):inU (fD n)=true:=by
 unfold fD inU
 cases decide (n<0) <;> simp only[aA,aB,aC,aP,IntKind.wrap_u64] <;> omega
theorem aOg (a b:Sure) (r) (h:yK a b=some r):aG4 a b=some r:=by
 rw[←h]
 have hm:uP (fD a.1) (fD b.1)=some (fD a.1*fD b.1/18446744073709551616,fD a.1*fD b.1 % 18446744073709551616,()):=by
  unfold uP;rw[aG5,aG5];rfl
 unfold aG4 yK zW
 rw[hm]
 generalize fD a.1*fD b.1/18446744073709551616=u
 generalize fD a.1*fD b.1 % 18446744073709551616=v
 cases a.2.1 <;> cases b.2.1 <;> simp only[aZ,bY,aI,zN,zO,aA,aB,aJ]
 by_cases hu:u=0
 ·have:(u !=0)=false:=by simp[hu]
  simp only[hu,ne_eq,not_true_eq_false,bE,lC]
  cases decide (v≥4611686018427387904) <;> rfl
 ·have:(u !=0)=true:=by simp[hu]
  simp only[this,hu,ne_eq,not_false_eq_true,aK,sY,aA]
theorem aEM (p:Int×Int):∀(l:List (Int×Int)) (a:Sure),pK (l++[p]) a=aAC (pK l a) (zW (lof p.1) (lof p.2))
 | [],_=>rfl
 | _::l,_=>aEM p l _
theorem aOu (q:Iq) (v:List Int) (r) (h:vC q v=some r):∃k,aHk k q v=some r:=by
 unfold vC at h
 cases hb:okL q.1 <;> simp only[hb,aA,aB] at h
 ·cases h
 injection h with h
 subst h
 have hl:=hU hb
 refine⟨q.1.length+1,?_⟩
 unfold aHk oO
 by_cases he:q.1.length=v.length
 ·have e1:((q.1.length:Int) !=(v.length:Int))=false:=by rw[he];simp
  have e2:decide (q.1.length≠v.length)=false:=by simp[he]
  simp only[e1,e2,aB]
  have:=oF (L:=aAY q v) (n:=q.1.length) (st:=fun k=>((k:Int),pK ((q.1.zip v).take k) (lof 0),())) (fin:=some (aDt q.2.1 (pK (q.1.zip v) (lof 0))))
   (fun k rec hk=>by
    have hv:k<v.length:=by omega
    have hz:(q.1.zip v)[k]? =some (q.1.getD k 0,v.getD k 0):=by
     rw[aW (show k<(q.1.zip v).length by rw[List.length_zip];omega)]
     simp[hk,hv]
    rw[aAY]
    simp only[dlt hk,dlt hv,dge,aI,aA,aT,bG hk (show _≤lenMax by simp only[lenMax];omega),yK,yL,aJ]
    rw[pC,hz]
    show _=rec (_,pK ((q.1.zip v).take k++[(q.1.getD k 0,v.getD k 0)]) (lof 0),())
    rw[aEM])
   (fun rec=>by
    have:(q.1.zip v).take q.1.length=q.1.zip v:=List.take_of_length_le (by rw[List.length_zip];omega)
    rw[aAY]
    simp only[bO,aB,this,aDt]
    cases (pK (q.1.zip v) (lof 0)).2.1 <;> rfl) (q.1.length+1) (by omega)
  exact this
 ·have e1:((q.1.length:Int) !=(v.length:Int))=true:=by simp;omega
  have e2:decide (q.1.length≠v.length)=true:=by simp[he]
  simp only[e1,e2,aA]
end Go.Pli

namespace Go.Pli
open Go Go.PM
theorem aM9 (l:List (List Sh)) (f pc:Int) (r) (h:oB l f pc=some r):aGb l f pc=some r:=by
 unfold oB at h
 cases hb:decide (0≤f)&&decide (0≤pc) <;> simp only[hb,aA,aB] at h
 ·cases h
 injection h with h
 subst h
 simp only[aC,aP] at hb
 unfold aGb bT
 by_cases h1:f≥(l.length:Int)
 ·have e:l.getD f.toNat []=[]:=gY (by omega)
  simp only[h1,aK,aA,e]
  rfl
 ·have h1':f<(l.length:Int):=by omega
  simp only[h1,h1',hb.1,aK,bE,aI,aA,aB]
  by_cases h2:pc≥((l.getD f.toNat []).length:Int)
  ·have e:(l.getD f.toNat []).getD pc.toNat zSh=zSh:=gY (by omega)
   simp only[h2,aK,aA,e]
  ·have h2':pc<((l.getD f.toNat []).length:Int):=by omega
   simp only[h2,h2',hb.2,aK,bE,aI,aA,aB]
theorem aNq (m:Im) (i:Ins) (r) (h:jT m i=some r):∃k,aGk k m i=some r:=by
 unfold jT at h
 cases hi:cB m <;> simp only[hi,aA,aB] at h
 ·cases h
 injection h with h
 subst h
 have htl:=wU hi i
 have h12:=(dI hi).methods
 have hfl:=aBf hi i.2.1
 have ht:oT m i=some (cO m i,()):=by unfold oT;rw[hi];rfl
 refine⟨1001,?_⟩
 have hc:vS m i.2.1=some (rE m i.2.1,()):=by unfold vS;rw[hi];rfl
 unfold aGk gL
 rw[hc,ht]
 cases i.1==22 <;> cases i.1==23 <;> simp only[aA,aB,aJ]
 have:=oF (L:=aAI m (cO m i,())) (n:=(cO m i).length) (st:=fun k=>(kL ((((cO m i).take k).filter (inM m)).map (eD m)),(k:Int),())) (fin:=some (kL (((cO m i).filter (inM m)).map (eD m)),()))
  (fun k rec hk=>by
   have hw:=bG hk (show _≤lenMax by simp only[lenMax];omega)
   have hx:(cO m i)[k]? =some (cO m i)[k]:=aW hk
   have fold:∀g:Int,m.2.2.2.1.getD g.toNat zMt=aD m g:=fun _=>rfl
   rw[aAI]
   simp only[dlt hk,dge,aI,aA,aT,getD_some hx,hw,fold]
   rw[pC,hx]
   generalize (cO m i)[k]=g
   by_cases h0:g≥0
   ·by_cases h1:g<(m.2.2.2.1.length:Int)
    ·have hin:inM m g=true:=cA.2 ⟨h0,h1⟩
     have h0':0≤g:=h0
     simp only[h0,h1,aK,aI,aA,Option.toList_some,List.filter_append,List.filter_cons,List.filter_nil,hin,cK,jF,dH,List.map_nil]
     unfold kL
     rw[List.foldl_append]
     rfl
    ·have hin:inM m g=false:=by
      cases hh:inM m g
      ·rfl
      ·exact absurd (cA.1 hh).2 h1
     simp only[h0,h1,aK,bE,aA,aB,Option.toList_some,List.filter_append,List.filter_cons,List.filter_nil,hin,kD,cH,bS]
   ·have hin:inM m g=false:=by
     cases hh:inM m g
     ·rfl
     ·exact absurd (cA.1 hh).1 h0
    simp only[h0,bE,aB,Option.toList_some,List.filter_append,List.filter_cons,List.filter_nil,hin,kD,cH,bS])
  (fun rec=>by
   rw[aAI]
   simp only[bO,aB,iD]) 1001 (by omega)
 exact this
theorem aCz {n a b c:Int} (h0:0≤n) (h1:n<1000000) (ha:a<n) (hb:b<n):pS n a b c=some (cU n a b c,()):=by
 unfold pS
 rw[aG h0,aG ha,aG hb,aJx (show n.toNat<1000000 by omega)]
 rfl
theorem aNb (n a b c:Int) (r) (h:pS n a b c=some r):aGd n a b c=some r:=by
 unfold pS at h
 cases hh:decide (0≤n)&&(Nat.blt n.toNat 1000000&&(decide (a<n)&&decide (b<n))) <;> simp only[hh,aA,aB] at h
 ·cases h
 injection h with h
 subst h
 simp only[aC,aP,eS] at hh
 obtain⟨n0,n1,an,bn⟩:=hh
 have e0:decide (n≤n)=true:=aG (by omega)
 have e1:decide (n<(rowMax:Int))=true:=aG (by simp only[rowMax];omega)
 have en:((n.toNat:Nat):Int)=n:=by omega
 unfold aGd cU sW
 simp only[n0,e0,e1,aK,aI,aA,dB,pE,en,an,bn,zN]
 by_cases ha:a≥0 <;> by_cases hb:b≥0
 ·have ha':0≤a:=ha
  have hb':0≤b:=hb
  simp only[ha,hb,aK,aA]
  rfl
 ·have ha':0≤a:=ha
  simp only[ha,hb,aK,bE,aA,aB]
  rfl
 ·have hb':0≤b:=hb
  simp only[ha,hb,aK,bE,aA,aB]
 ·simp only[ha,hb,bE,aB]
theorem aOR (l:List Int) (c:Unit) (h:aOU l c):∃k,aOT k l c=some (aA0 l c,()):=by
 refine⟨l.length+1,aC6 (st:=fun k=>((k:Int),())) (p:=uO) (fun k x rec hk hlt=>?_) (fun rec=>?_) _ (gO _)⟩
 ·unfold aDp
  simp only[dlt hlt,dge,aI,aA,aT,getD_some hk,bG hlt h.1.1]
  rfl
 ·unfold aDp
  simp only[bO,aB]
theorem aQo (l:List Int) (c:Unit) (_:aQq l c):aIJ l c=some (zA l c,()):=by
 unfold aIJ aA0 zA
 rw[aA2]
theorem xG (m:Im) (l:List (List Sh)) (f pc:Int):(gJ m l f pc).length≤3:=by
 have h2:(aN m f pc (bT l f pc).2.1).2.1.length≤2:=tJ ..
 unfold gJ
 cases !(bT l f pc).1 <;> simp only[aA,aB]
 ·cases (aN m f pc (bT l f pc).2.1).2.2.1 !=0 <;> simp only[aA,aB]
  ·rw[aV,pF]
   cases decide ((aN m f pc (bT l f pc).2.1).2.1.length=0) <;> simp only[aA,aB,aF,bI] <;> omega
  ·simp
 ·simp
theorem aCa {l:List (List Sh)} (h:gA l=true) (f pc:Int):okL (bT l f pc).2.1=true:=by
 unfold bT
 by_cases h1:f.toNat<l.length
 ·obtain⟨-,h2⟩:=aNH h h1
  by_cases h3:pc.toNat<(l.getD f.toNat []).length
  ·rw[getD_some (aW h3)]
   exact fB (h2 _ (eE h3))
  ·rw[gY (by omega)];rfl
 ·rw[gY (show l.length≤f.toNat by omega)];rfl
theorem aLI {m:Im} (hs:aM m=true) {f:Int} (hf:inM m f=true) {k:Nat} (hk:k<codeN m f) {S:St4} (h2:S.2.1.length≤2) (hto:∀to∈S.2.1,0≤to∧to<(codeN m f:Int)) {o:List Iq} {rec:(List Iq×Int×Unit)→Option (List Iq×Unit)} {F:Nat} (hF:1000<F) (pre:List Iq) (hpre:pre.length<1000000):
  aE (xW m f S (o,(k:Int),()) rec) F (pre,(0:Int),())=rec (pre++S.2.1.map (fun to=>cU (codeN m f:Int) (k:Int) to (IntKind.i64.wrap (0 - gL m (aH m f (k:Int))))),((k+1:Nat):Int),()):=by
 have hc:=fA hs hf
 have hw:=bG hk (show _≤lenMax by simp only[lenMax];omega)
 have fold:∀g:Int,m.2.2.2.1.getD g.toNat zMt=aD m g:=fun _=>rfl
 have fold3:(aD m f).2.2.2.1.length=codeN m f:=rfl
 have fold2:(aD m f).2.2.2.1.getD k cR=aH m f (k:Int):=rfl
 have hcost:jT m (aH m f (k:Int))=some (gL m (aH m f (k:Int)),()):=by unfold jT;rw[(dR hs).1];rfl
 generalize hR:S.2.1.map (fun to=>cU (codeN m f:Int) (k:Int) to (IntKind.i64.wrap (0 - gL m (aH m f (k:Int)))))=R
 have hRl:R.length=S.2.1.length:=by rw[←hR,pF]
 have:=oF (L:=xW m f S (o,(k:Int),()) rec) (n:=S.2.1.length) (st:=fun j=>(pre++R.take j,(j:Int),()))
  (fin:=rec (pre++R,((k+1:Nat):Int),()))
  (fun j rec2 hj=>by
   have hx:S.2.1[j]? =some S.2.1[j]:=aW hj
   obtain⟨t0,t1⟩:=hto _ (eE hj)
   have hxR:R[j]? =some (cU (codeN m f:Int) (k:Int) S.2.1[j] (IntKind.i64.wrap (0 - gL m (aH m f (k:Int))))):=by
    rw[←hR,kC,hx]
    rfl
   have hroom:decide ((pre++R.take j).length+(0+1)<rowMax)=true:=jQ (by rw[aV,bR];omega)
   rw[xW]
   simp only[fold,fold3,aT,fold2,dlt hj,dge,aI,aA,getD_some hx]
   rw[hcost,aJ,aCz (by omega) (by omega) (by omega) (by omega),aJ]
   simp only[aF,bI,hroom,aA,bG hj (show _≤lenMax by simp only[lenMax];omega)]
   rw[pC,hxR,bX]
   rfl)
  (fun rec2=>by
   rw[xW]
   simp only[bO,aB,hw]
   rw[List.take_of_length_le (by omega)]) F (by omega)
 rw[List.take_zero,bS] at this
 exact this
theorem aNa (m:Im) (l:List (List Sh)) (f:Int) (r) (h:mP m l f=some r):∃k,aGc k m l f=some r:=by
 unfold mP at h
 cases hb:aM m&&gA l <;> simp only[hb,aA,aB] at h
 ·cases h
 injection h with h
 subst h
 simp only[aC] at hb
 obtain⟨hs,hl⟩:=hb
 obtain⟨F,hF⟩:∃F:Nat,1000<F:=⟨1001,by omega⟩
 refine⟨F,?_⟩
 have fold:∀g:Int,m.2.2.2.1.getD g.toNat zMt=aD m g:=fun _=>rfl
 have fold3:(aD m f).2.2.2.1.length=codeN m f:=rfl
 have fold4:(aD m f).2.2.2.2.2.1=eD m f:=rfl
 unfold aGc eC
 simp only[fold,fold3,fold4]
 cases hf:inM m f
 ·simp only[aB]
  have:¬(0≤f∧f<(m.2.2.2.1.length:Int)):=fun hh=>by rw[cA.2 hh] at hf;cases hf
  by_cases h0:f<0
  ·simp only[h0,aK,aA]
  ·have h1:f≥(m.2.2.2.1.length:Int):=by omega
   simp only[h0,h1,aK,bE,aA,aB]
 obtain⟨f0,f1⟩:=cA.1 hf
 have f2:¬f<0:=by omega
 have f3:¬f≥(m.2.2.2.1.length:Int):=by omega
 have hc:=fA hs hf
 have hc0:((codeN m f:Int)==0)=false:=oX.2 (by omega)
 rw[bH f2,aB,bH f3,aB,aG f0,aG f1,aI,aA,hc0,aB,aA,aA,aA]
 rw[aCz (by omega) (by omega) (by omega) (by omega),aJ]
 have:=uY (L:=aAz m l f F) (n:=codeN m f) (B:=3) (st:=fun k out=>(cU (codeN m f:Int) (-1) 0 (eD m f)::out,(k:Int),())) (f:=fun k=>gJ m l f (k:Int)) (fin:=fun out=>some (cU (codeN m f:Int) (-1) 0 (eD m f)::out,()))
  (fun k _=>xG ..)
  (fun k out rec hk ho=>by
   have hw:=bG hk (show _≤lenMax by simp only[lenMax];omega)
   have hp:oB l f (k:Int)=some (bT l f (k:Int),()):=by unfold oB;simp only[f0,dge,aK,aI,aA]
   have hst:oP m f (k:Int) (bT l f (k:Int)).2.1=some (aN m f (k:Int) (bT l f (k:Int)).2.1):=by unfold oP;rw[hs,aCa hl];rfl
   have fold2:(aD m f).2.2.2.1.getD k cR=aH m f (k:Int):=rfl
   have d1:decide ((k:Int)<(((aD m f).2.2.2.1.length:Nat):Int))=true:=dlt hk
   rw[aAz]
   dsimp only
   rw[fold,d1,aA,dge,zN,aA,hp,aJ]
   dsimp only
   cases h1:(bT l f (k:Int)).1
   case false=>
    rw[bY,aA,hw]
    simp only[gJ,h1,bY,aA,bS]
   rw[aZ,aB,hst,aJ]
   have h2:(aN m f (k:Int) (bT l f (k:Int)).2.1).2.1.length≤2:=tJ ..
   cases h3:(aN m f (k:Int) (bT l f (k:Int)).2.1).2.2.1 !=0
   case true=>
    rw[aA,hw]
    simp only[gJ,h1,h3,aZ,aB,aA,bS]
   obtain⟨-,-,-,hto⟩:=mF hs (f:=f) (pc:=(k:Int)) (s:=(bT l f (k:Int)).2.1) (by simpa using h3)
   rw[aB]
   have hrule:gJ m l f (k:Int)=(bif decide ((aN m f (k:Int) (bT l f (k:Int)).2.1).2.1.length=0) then[cU (codeN m f:Int) (k:Int) (-1) 0] else[])++(aN m f (k:Int) (bT l f (k:Int)).2.1).2.1.map fun to=>cU (codeN m f:Int) (k:Int) to (IntKind.i64.wrap (0 - gL m (aH m f (k:Int)))):=by simp only[gJ,h1,h3,aZ,aB]
   rw[hrule]
   generalize hS:aN m f (k:Int) (bT l f (k:Int)).2.1=S at h2 h3 hto
   have inner:=aLI hs hf hk h2 hto (o:=cU (codeN m f:Int) (-1) 0 (eD m f)::out) (rec:=rec) hF
   by_cases h0:S.2.1.length=0
   ·have e1:((S.2.1.length:Int)==0)=true:=by rw[h0];rfl
    have e2:decide (S.2.1.length=0)=true:=aG h0
    have hroom:decide ((cU (codeN m f:Int) (-1) 0 (eD m f)::out).length+(0+1)<rowMax)=true:=jQ (by simp only[aF];omega)
    rw[e1,e2,aA,aA]
    rw[fold3,aCz (by omega) (by omega) (by omega) (by omega),aJ]
    have e3:∀q:Iq,([q]:List Iq).length=0+1:=fun _=>rfl
    rw[e3,hroom,aA,aJ]
    refine (inner (cU (codeN m f:Int) (-1) 0 (eD m f)::out++[cU (codeN m f:Int) (k:Int) (-1) 0]) (by rw[aV,aF,aF,bI];omega)).trans ?_
    rw[bX,qT]
   ·have e1:((S.2.1.length:Int)==0)=false:=oX.2 (by omega)
    have e2:decide (S.2.1.length=0)=false:=bH h0
    rw[e1,e2,aB,aB,aJ]
    refine (inner (cU (codeN m f:Int) (-1) 0 (eD m f)::out) (by rw[aF];omega)).trans ?_
    rw[qT,nO])
  (fun out rec _=>by
   rw[aAz]
   simp only[fold,fold3,bO,aB,idL]) F (by omega)
 exact this
theorem aLK {m:Im} (hs:aM m=true) (l:List (List Sh)) (f:Int):(eC m l f).length≤1000:=by
 unfold eC
 cases hf:inM m f <;> simp only[aA,aB]
 ·simp
 have hc:=fA hs hf
 have key:∀n:Nat,(((List.range n).map fun k:Nat=>gJ m l f (k:Int)).flatten).length≤3*n:=by
  intro n
  induction n with
  | zero=>simp
  | succ n ih=>
   have:=xG m l f (n:Int)
   rw[List.range_succ,jF,lB,aV]
   simp only[dH,List.map_nil,fV,jG,bS]
   omega
 have:=key (codeN m f)
 rw[aF]
 omega
theorem aLL {m:Im} (l:List (List Sh)) (f:Int):∀q∈eC m l f,q.1.length=codeN m f:=by
 have hr:∀a b c:Int,(cU (codeN m f:Int) a b c).1.length=codeN m f:=by
  intro a b c
  unfold cU sW
  cases decide (a≥0) <;> cases decide (b≥0) <;> simp
 intro q hq
 unfold eC at hq
 cases hf:inM m f <;> simp only[hf,aA,aB] at hq
 ·cases hq
 rcases bW.1 hq with rfl | hq
 ·exact hr ..
 simp only[nP,fJ] at hq
 obtain⟨x,⟨k,-,rfl⟩,hq⟩:=hq
 unfold gJ at hq
 cases h1: !(bT l f (k:Int)).1 <;> simp only[h1,aA,aB] at hq
 ·cases h2:(aN m f (k:Int) (bT l f (k:Int)).2.1).2.2.1 !=0 <;> simp only[h2,aA,aB] at hq
  ·rw[cM] at hq
   rcases hq with hq | hq
   ·cases h3:decide ((aN m f (k:Int) (bT l f (k:Int)).2.1).2.1.length=0) <;> simp only[h3,aA,aB] at hq
    ·cases hq
    ·rw[dY] at hq;subst hq;exact hr ..
   ·obtain⟨t,-,rfl⟩:=fJ.1 hq
    exact hr ..
  ·cases hq
 ·cases hq
theorem aGl {m:Im} {l:List (List Sh)} (hs:aM m=true) (hl:gA l=true):∀(j k F:Nat),k+j=m.2.2.2.1.length→j<F→aE (uM m l 1001) F ((k:Int),())=some (xZ m l ((List.range' k j).map fun n:Nat=>(n:Int)))
 | 0,k,F,hk,hF=>by
  obtain⟨F,rfl⟩:∃n,F=n+1:=⟨F - 1,by omega⟩
  have:k=m.2.2.2.1.length:=by omega
  subst this
  rw[aY,uM]
  simp only[bO,aB]
  rfl
 | j+1,k,F,hk,hF=>by
  obtain⟨F,rfl⟩:∃n,F=n+1:=⟨F - 1,by omega⟩
  have h12:=(dI (dR hs).1).methods
  have hlt:k<m.2.2.2.1.length:=by omega
  have hin:inM m (k:Int)=true:=cA.2 ⟨by omega,by omega⟩
  have hc:=fA hs hin
  have hw:=bG hlt (show _≤lenMax by simp only[lenMax];omega)
  have fold:∀g:Nat,m.2.2.2.1.getD g zMt=aD m (g:Int):=fun _=>rfl
  have fold4:(aD m (k:Int)).2.2.2.2.2.2.1=iV m (k:Int):=rfl
  have hr:mP m l (k:Int)=some (eC m l (k:Int),()):=by unfold mP;rw[hs,hl];rfl
  have hrl:=aLK hs l (k:Int)
  rw[aY,uM]
  simp only[dlt hlt,dge,aI,aA,hr,aJ]
  have key:=lO (L:=aAJ m ((k:Int),()) (aE (uM m l 1001) F) (eC m l (k:Int),())) (xs:=eC m l (k:Int)) (st:=fun j=>((j:Int),())) (p:=aA7 m (k:Int)) (ex:=some ((k:Int),6,())) (fin:=bif (iV m (k:Int)).any uO then some ((k:Int),6,()) else aE (uM m l 1001) F (((k+1:Nat):Int),()))
   (fun j q rec hj hjl=>by
    have hh:vC q (iV m (k:Int))=some (oO q (iV m (k:Int))):=by
     have:=aLL (m:=m) l (k:Int) q (kB hj)
     unfold vC;rw[fB (by omega)];rfl
    rw[aAJ]
    simp only[dlt hjl,dge,aI,aA,aT,getD_some hj,fold,fold4,hh,aJ,bG hjl (show _≤lenMax by simp only[lenMax];omega),aA7]
    by_cases he:(oO q (iV m (k:Int))).2.1=0
    ·have:((oO q (iV m (k:Int))).2.1 !=0)=false:=by simp[he]
     simp only[he,aK,eG]
     cases (oO q (iV m (k:Int))).1 <;> rfl
    ·have:((oO q (iV m (k:Int))).2.1 !=0)=true:=by simp[he]
     simp only[this,he,bE,lD,aA,aB])
   (fun rec=>by
    rw[aAJ]
    simp only[bO,aB,aT,fold,fold4,zA,hw]) 1001 (by omega)
  refine key.trans ?_
  rw[List.range'_succ,dH,xZ]
  cases (eC m l (k:Int)).all (aA7 m (k:Int)) <;> simp only[aA,aB]
  cases (iV m (k:Int)).any uO <;> simp only[aA,aB]
  exact aGl hs hl j (k+1) F (by omega) (by omega)
theorem aNr (m:Im) (l:List (List Sh)) (r) (h:oC m l=some r):∃k,aGm k m l=some r:=by
 unfold oC at h
 cases hb:aM m&&gA l <;> simp only[hb,aA,aB] at h
 ·cases h
 injection h with h
 subst h
 simp only[aC] at hb
 have h12:=(dI (dR hb.1).1).methods
 refine⟨1001,?_⟩
 unfold aGm
 rw[show ints m.2.2.2.1.length=(List.range' 0 m.2.2.2.1.length).map fun n:Nat=>(n:Int) by rw[←List.range_eq_range'];rfl]
 exact aGl hb.1 hb.2 m.2.2.2.1.length 0 1001 (by omega) (by omega)
theorem aM6 (m:Im) (i:Ins) (r) (h:pR m i=some r):∃k,aF4 k m i=some r:=by
 unfold pR at h
 cases hb:cB m&&(cO m i).all (inM m) <;> simp only[hb,aA,aB] at h
 ·cases h
 injection h with h
 subst h
 simp only[aC,bL] at hb
 obtain⟨hi,hin⟩:=hb
 have htl:=wU hi i
 have h12:=(dI hi).methods
 have hfl:=aBf hi i.2.1
 have ht:tV m i=some (cO m i,()):=by unfold tV;rw[hi];rfl
 have hc:iH m i.2.1=some (dT m i.2.1,()):=by unfold iH;rw[hi];rfl
 refine⟨1001,?_⟩
 unfold aF4 uG
 rw[hc,ht]
 cases i.1==22 <;> cases i.1==23 <;> simp only[aA,aB,aJ]
 ·have:=oF (L:=aAy m (cO m i,())) (n:=(cO m i).length) (st:=fun k=>(kL (((cO m i).take k).map (eD m)),(k:Int),())) (fin:=some (kL ((cO m i).map (eD m)),()))
   (fun k rec hk=>by
    have hw:=bG hk (show _≤lenMax by simp only[lenMax];omega)
    have hx:(cO m i)[k]? =some (cO m i)[k]:=aW hk
    obtain⟨g0,g1⟩:=cA.1 (hin _ (eE hk))
    have fold:∀g:Int,m.2.2.2.1.getD g.toNat zMt=aD m g:=fun _=>rfl
    have fold4:∀g,(aD m g).2.2.2.2.2.1=eD m g:=fun _=>rfl
    rw[aAy]
    simp only[dlt hk,dge,aI,aA,aT,getD_some hx,hw,fold,fold4,g0,g1,aK]
    rw[pC,hx]
    generalize (cO m i)[k]=g
    have hm:kL (((cO m i).take k++(some g).toList).map (eD m))=max (kL (((cO m i).take k).map (eD m))) (eD m g):=by
     unfold kL
     rw[jF,List.foldl_append]
     rfl
    rw[hm]
    by_cases hgt:eD m g>kL (((cO m i).take k).map (eD m))
    ·rw[aG hgt,Int.max_eq_right (by omega)];rfl
    ·rw[bH hgt,Int.max_eq_left (by omega)];rfl)
   (fun rec=>by
    rw[aAy]
    simp only[bO,aB,iD]) 1001 (by omega)
  exact this
 ·unfold rE
  rw[cT (by omega) (by omega)]
  simp
 ·unfold rE
  rw[cT (by omega) (by omega)]
  simp
end Go.Pli

/- All of layer 13 to 16's functions. -/
