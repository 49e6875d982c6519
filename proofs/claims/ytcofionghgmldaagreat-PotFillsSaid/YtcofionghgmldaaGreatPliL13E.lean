/- Sums: the printed functions come to what is told in plain Lean. -/
import Derived.Test.YtcofionghgmldaaGreatPliL11
import Derived.Lib.Mul64
namespace Go.Pli
open Go Go.PM
theorem aK4 (n:Nat):IntKind.u64.wrap (n:Int)=((n % 18446744073709551616:Nat):Int):=by
 rw[IntKind.wrap_u64];omega
theorem aRs (n:Nat):(n:Int).fdiv 4294967296=((n/4294967296:Nat):Int):=by
 rw[Int.fdiv_eq_ediv_of_nonneg _ (by omega)];rfl
theorem aPQ (n:Nat):(((BitVec.ofInt 64 (n:Int)&&&BitVec.ofInt 64 4294967295).toNat:Nat):Int)=((n % 4294967296:Nat):Int):=by
 have h1:(BitVec.ofInt 64 (n:Int)).toNat=n % 18446744073709551616:=by
  rw[BitVec.toNat_ofInt];omega
 have h2:(BitVec.ofInt 64 4294967295).toNat=2 ^ 32 - 1:=by decide
 rw[BitVec.toNat_and,h1,h2,Nat.and_two_pow_sub_one_eq_mod]
 congr 1
 omega
theorem aPo (x y:Int) (r) (h:vV x y=some r):aHF x y=some r:=by
 unfold vV at h
 cases hb:inU x&&inU y <;> simp only[hb,aA,aB] at h
 ·cases h
 injection h with h
 subst h
 simp only[inU,aC,aP] at hb
 obtain⟨⟨x0,x1⟩,y0,y1⟩:=hb
 obtain⟨a,rfl⟩:∃a:Nat,x=a:=⟨x.toNat,by omega⟩
 obtain⟨b,rfl⟩:∃b:Nat,y=b:=⟨y.toNat,by omega⟩
 have ha:a<18446744073709551616:=by omega
 have hb:b<18446744073709551616:=by omega
 obtain⟨h1,h2,h3,h4⟩:=Lib.mul64_hi a b ha hb
 have ma:a % 4294967296 % 18446744073709551616=a % 4294967296:=iV (by omega)
 have mb:b % 4294967296 % 18446744073709551616=b % 4294967296:=iV (by omega)
 unfold aHF
 simp only[aRs,aPQ,aK4,←Int.natCast_mul,←Int.natCast_add,ma,mb]
 have e1:a % 4294967296*(b % 4294967296) % 18446744073709551616=a % 4294967296*(b % 4294967296):=iV h1
 simp only[e1]
 have p1:=Lib.half_mul_le (a:=a/4294967296) (b:=b % 4294967296) (by omega) (by omega)
 have e2:a/4294967296*(b % 4294967296) % 18446744073709551616=a/4294967296*(b % 4294967296):=iV (by omega)
 simp only[e2]
 have e3:=iV h2
 simp only[e3]
 have p2:=Lib.half_mul_le (a:=a % 4294967296) (b:=b/4294967296) (by omega) (by omega)
 have e4:a % 4294967296*(b/4294967296) % 18446744073709551616=a % 4294967296*(b/4294967296):=iV (by omega)
 have e5:∀t:Nat,t % 4294967296 % 18446744073709551616=t % 4294967296:=fun t=>iV (by omega)
 simp only[e4,e5]
 have e6:=iV h3
 simp only[e6]
 have p3:=Lib.half_mul_le (a:=a/4294967296) (b:=b/4294967296) (by omega) (by omega)
 have e7:a/4294967296*(b/4294967296) % 18446744073709551616=a/4294967296*(b/4294967296):=iV (by omega)
 simp only[e7]
 have hq:a*b/18446744073709551616<18446744073709551616:=by
  have:=Nat.mul_le_mul (show a≤18446744073709551615 by omega) (show b≤18446744073709551615 by omega)
  omega
 have e8:(a/4294967296*(b/4294967296)+(a/4294967296*(b % 4294967296)+a % 4294967296*(b % 4294967296)/4294967296)/4294967296) % 18446744073709551616=a/4294967296*(b/4294967296)+(a/4294967296*(b % 4294967296)+a % 4294967296*(b % 4294967296)/4294967296)/4294967296:=iV (by omega)
 simp only[e8,h4]
 rw[iV hq]
 rfl
theorem aP0 (n:Int):aIc n=some (lof n,()):=by
 unfold aIc lof
 cases decide (n> -4611686018427387904) <;> rfl
theorem aPU (n:Int):aH5 n=some (fX n,()):=by
 unfold aH5 fX
 cases decide (n<0) <;> rfl
theorem aPW (a b:Sure) (r) (h:zL a b=some r):aH6 a b=some r:=by
 rw[←h]
 unfold aH6 zL aBl
 cases a.2.1 <;> cases b.2.1 <;> rfl
theorem aH4 (n:Int):inU (fX n)=true:=by
 unfold fX inU
 cases decide (n<0) <;> simp only[aA,aB,aC,aP,IntKind.wrap_u64] <;> omega
theorem aPS (a b:Sure) (r) (h:zK a b=some r):aH3 a b=some r:=by
 rw[←h]
 have hm:vV (fX a.1) (fX b.1)=some (fX a.1*fX b.1/18446744073709551616,fX a.1*fX b.1 % 18446744073709551616,()):=by
  unfold vV;rw[aH4,aH4];rfl
 unfold aH3 zK aAD
 rw[hm]
 generalize fX a.1*fX b.1/18446744073709551616=u
 generalize fX a.1*fX b.1 % 18446744073709551616=v
 cases a.2.1 <;> cases b.2.1 <;> simp only[aY,cF,aH,uL,aAt,aA,aB,aK]
 by_cases hu:u=0
 ·have:(u !=0)=false:=by simp[hu]
  simp only[hu,ne_eq,not_true_eq_false,bU,jJ]
  cases decide (v≥4611686018427387904) <;> rfl
 ·have:(u !=0)=true:=by simp[hu]
  simp only[this,hu,ne_eq,not_false_eq_true,aN,sB,aA]
theorem aFz (p:Int×Int):∀(l:List (Int×Int)) (a:Sure),qK (l++[p]) a=aBl (qK l a) (aAD (lof p.1) (lof p.2))
 | [],_=>rfl
 | _::l,_=>aFz p l _
theorem aP6 (q:Iq) (v:List Int) (r) (h:wG q v=some r):∃k,aIi k q v=some r:=by
 unfold wG at h
 cases hb:okL q.1 <;> simp only[hb,aA,aB] at h
 ·cases h
 injection h with h
 subst h
 have hl:=iP hb
 refine⟨q.1.length+1,?_⟩
 unfold aIi pS
 by_cases he:q.1.length=v.length
 ·have e1:((q.1.length:Int) !=(v.length:Int))=false:=by rw[he];simp
  have e2:decide (q.1.length≠v.length)=false:=by simp[he]
  simp only[e1,e2,aB]
  have:=rB (L:=aBG q v) (n:=q.1.length) (st:=fun k=>((k:Int),qK ((q.1.zip v).take k) (lof 0),())) (fin:=some (aEl q.2.1 (qK (q.1.zip v) (lof 0))))
   (fun k rec hk=>by
    have hv:k<v.length:=by omega
    have hz:(q.1.zip v)[k]? =some (q.1.getD k 0,v.getD k 0):=by
     rw[aT (show k<(q.1.zip v).length by rw[List.length_zip];omega)]
     simp[hk,hv]
    rw[aBG]
    simp only[dlt hk,dlt hv,dge,aH,aA,aR,bG hk (show _≤lenMax by simp only[lenMax];omega),zK,zL,aK]
    rw[rW,hz]
    show _=rec (_,qK ((q.1.zip v).take k++[(q.1.getD k 0,v.getD k 0)]) (lof 0),())
    rw[aFz])
   (fun rec=>by
    have:(q.1.zip v).take q.1.length=q.1.zip v:=List.take_of_length_le (by rw[List.length_zip];omega)
    rw[aBG]
    simp only[bP,aB,this,aEl]
    cases (qK (q.1.zip v) (lof 0)).2.1 <;> rfl) (q.1.length+1) (by omega)
  exact this
 ·have e1:((q.1.length:Int) !=(v.length:Int))=true:=by simp;omega
  have e2:decide (q.1.length≠v.length)=true:=by simp[he]
  simp only[e1,e2,aA]
end Go.Pli

namespace Go.Pli
open Go Go.PM
theorem aOy (l:List (List Sh)) (f pc:Int) (r) (h:pE l f pc=some r):aG7 l f pc=some r:=by
 unfold pE at h
 cases hb:decide (0≤f)&&decide (0≤pc) <;> simp only[hb,aA,aB] at h
 ·cases h
 injection h with h
 subst h
 simp only[aC,aP] at hb
 unfold aG7 bS
 by_cases h1:f≥(l.length:Int)
 ·have e:l.getD f.toNat []=[]:=gB (by omega)
  simp only[h1,aN,aA,e]
  rfl
 ·have h1':f<(l.length:Int):=by omega
  simp only[h1,h1',hb.1,aN,bU,aH,aA,aB]
  by_cases h2:pc≥((l.getD f.toNat []).length:Int)
  ·have e:(l.getD f.toNat []).getD pc.toNat zSh=zSh:=gB (by omega)
   simp only[h2,aN,aA,e]
  ·have h2':pc<((l.getD f.toNat []).length:Int):=by omega
   simp only[h2,h2',hb.2,aN,bU,aH,aA,aB]
theorem aOR (m:Im) (i:Ins) (r) (h:mP m i=some r):∃k,aHj k m i=some r:=by
 unfold mP at h
 cases hi:cN m <;> simp only[hi,aA,aB] at h
 ·cases h
 injection h with h
 subst h
 have htl:=xW hi i
 have h12:=(dD hi).methods
 have hfl:=aBW hi i.2.1
 have ht:pY m i=some (bX m i,()):=by unfold pY;rw[hi];rfl
 refine⟨1001,?_⟩
 have hc:wX m i.2.1=some (qN m i.2.1,()):=by unfold wX;rw[hi];rfl
 unfold aHj iH
 rw[hc,ht]
 cases i.1==22 <;> cases i.1==23 <;> simp only[aA,aB,aK]
 have:=rB (L:=aBr m (bX m i,())) (n:=(bX m i).length) (st:=fun k=>(lL ((((bX m i).take k).filter (inM m)).map (eA m)),(k:Int),())) (fin:=some (lL (((bX m i).filter (inM m)).map (eA m)),()))
  (fun k rec hk=>by
   have hw:=bG hk (show _≤lenMax by simp only[lenMax];omega)
   have hx:(bX m i)[k]? =some (bX m i)[k]:=aT hk
   have fold:∀g:Int,m.2.2.2.1.getD g.toNat zMt=aD m g:=fun _=>rfl
   rw[aBr]
   simp only[dlt hk,dge,aH,aA,aR,getD_some hx,hw,fold]
   rw[rW,hx]
   generalize (bX m i)[k]=g
   by_cases h0:g≥0
   ·by_cases h1:g<(m.2.2.2.1.length:Int)
    ·have hin:inM m g=true:=bC.2 ⟨h0,h1⟩
     have h0':0≤g:=h0
     simp only[h0,h1,aN,aH,aA,Option.toList_some,List.filter_append,List.filter_cons,List.filter_nil,hin,cD,jZ,dO,List.map_nil]
     unfold lL
     rw[List.foldl_append]
     rfl
    ·have hin:inM m g=false:=by
      cases hh:inM m g
      ·rfl
      ·exact absurd (bC.1 hh).2 h1
     simp only[h0,h1,aN,bU,aA,aB,Option.toList_some,List.filter_append,List.filter_cons,List.filter_nil,hin,iY,cO,cB]
   ·have hin:inM m g=false:=by
     cases hh:inM m g
     ·rfl
     ·exact absurd (bC.1 hh).1 h0
    simp only[h0,bU,aB,Option.toList_some,List.filter_append,List.filter_cons,List.filter_nil,hin,iY,cO,cB])
  (fun rec=>by
   rw[aBr]
   simp only[bP,aB,iD]) 1001 (by omega)
 exact this
theorem aDh {n a b c:Int} (h0:0≤n) (h1:n<1000000) (ha:a<n) (hb:b<n):qV n a b c=some (fA n a b c,()):=by
 unfold qV
 rw[aI h0,aI ha,aI hb,aKB (show n.toNat<1000000 by omega)]
 rfl
theorem aOA (n a b c:Int) (r) (h:qV n a b c=some r):aHa n a b c=some r:=by
 unfold qV at h
 cases hh:decide (0≤n)&&(Nat.blt n.toNat 1000000&&(decide (a<n)&&decide (b<n))) <;> simp only[hh,aA,aB] at h
 ·cases h
 injection h with h
 subst h
 simp only[aC,aP,fQ] at hh
 obtain⟨n0,n1,an,bn⟩:=hh
 have e0:decide (n≤n)=true:=aI (by omega)
 have e1:decide (n<(rowMax:Int))=true:=aI (by simp only[rowMax];omega)
 have en:((n.toNat:Nat):Int)=n:=by omega
 unfold aHa fA aCr
 simp only[n0,e0,e1,aN,aH,aA,cX,rY,en,an,bn,uL]
 by_cases ha:a≥0 <;> by_cases hb:b≥0
 ·have ha':0≤a:=ha
  have hb':0≤b:=hb
  simp only[ha,hb,aN,aA]
  rfl
 ·have ha':0≤a:=ha
  simp only[ha,hb,aN,bU,aA,aB]
  rfl
 ·have hb':0≤b:=hb
  simp only[ha,hb,aN,bU,aA,aB]
 ·simp only[ha,hb,bU,aB]
theorem aQu (l:List Int) (c:Unit) (h:aQx l c):∃k,aQw k l c=some (aBI l c,()):=by
 refine⟨l.length+1,aDX (st:=fun k=>((k:Int),())) (p:=vU) (fun k x rec hk hlt=>?_) (fun rec=>?_) _ (hC _)⟩
 ·unfold aEh
  simp only[dlt hlt,dge,aH,aA,aR,getD_some hk,bG hlt h.1.1]
  rfl
 ·unfold aEh
  simp only[bP,aB]
theorem aR6 (l:List Int) (c:Unit) (_:aR8 l c):aJN l c=some (aAc l c,()):=by
 unfold aJN aBI aAc
 rw[aBK]
theorem aF6 (m:Im) (l:List (List Sh)) (f pc:Int):(nT m l f pc).length≤3:=by
 have h2:(aQ m f pc (bS l f pc).2.1).2.1.length≤2:=sL ..
 unfold nT
 cases !(bS l f pc).1 <;> simp only[aA,aB]
 ·cases (aQ m f pc (bS l f pc).2.1).2.2.1 !=0 <;> simp only[aA,aB]
  ·rw[aX,qF]
   cases decide ((aQ m f pc (bS l f pc).2.1).2.1.length=0) <;> simp only[aA,aB,aF,bK] <;> omega
  ·simp
 ·simp
theorem aFV {l:List (List Sh)} (h:eN l=true) (f pc:Int):okL (bS l f pc).2.1=true:=by
 unfold bS
 by_cases h1:f.toNat<l.length
 ·obtain⟨-,h2⟩:=aHC h h1
  by_cases h3:pc.toNat<(l.getD f.toNat []).length
  ·rw[getD_some (aT h3)]
   exact fB (h2 _ (dX h3))
  ·rw[gB (by omega)];rfl
 ·rw[gB (show l.length≤f.toNat by omega)];rfl
theorem aM7 {m:Im} (hs:aJ m=true) {f:Int} (hf:inM m f=true) {k:Nat} (hk:k<codeN m f) {S:St4} (h2:S.2.1.length≤2) (hto:∀to∈S.2.1,0≤to∧to<(codeN m f:Int)) {o:List Iq} {rec:(List Iq×Int×Unit)→Option (List Iq×Unit)} {F:Nat} (hF:1000<F) (pre:List Iq) (hpre:pre.length<1000000):
  aE (yX m f S (o,(k:Int),()) rec) F (pre,(0:Int),())=rec (pre++S.2.1.map (fun to=>fA (codeN m f:Int) (k:Int) to (IntKind.i64.wrap (0 - iH m (aG m f (k:Int))))),((k+1:Nat):Int),()):=by
 have hc:=eU hs hf
 have hw:=bG hk (show _≤lenMax by simp only[lenMax];omega)
 have fold:∀g:Int,m.2.2.2.1.getD g.toNat zMt=aD m g:=fun _=>rfl
 have fold3:(aD m f).2.2.2.1.length=codeN m f:=rfl
 have fold2:(aD m f).2.2.2.1.getD k zIns=aG m f (k:Int):=rfl
 have hcost:mP m (aG m f (k:Int))=some (iH m (aG m f (k:Int)),()):=by unfold mP;rw[(dI hs).1];rfl
 generalize hR:S.2.1.map (fun to=>fA (codeN m f:Int) (k:Int) to (IntKind.i64.wrap (0 - iH m (aG m f (k:Int)))))=R
 have hRl:R.length=S.2.1.length:=by rw[←hR,qF]
 have:=rB (L:=yX m f S (o,(k:Int),()) rec) (n:=S.2.1.length) (st:=fun j=>(pre++R.take j,(j:Int),()))
  (fin:=rec (pre++R,((k+1:Nat):Int),()))
  (fun j rec2 hj=>by
   have hx:S.2.1[j]? =some S.2.1[j]:=aT hj
   obtain⟨t0,t1⟩:=hto _ (dX hj)
   have hxR:R[j]? =some (fA (codeN m f:Int) (k:Int) S.2.1[j] (IntKind.i64.wrap (0 - iH m (aG m f (k:Int))))):=by
    rw[←hR,kA,hx]
    rfl
   have hroom:decide ((pre++R.take j).length+(0+1)<rowMax)=true:=mM (by rw[aX,bN];omega)
   rw[yX]
   simp only[fold,fold3,aR,fold2,dlt hj,dge,aH,aA,getD_some hx]
   rw[hcost,aK,aDh (by omega) (by omega) (by omega) (by omega),aK]
   simp only[aF,bK,hroom,aA,bG hj (show _≤lenMax by simp only[lenMax];omega)]
   rw[rW,hxR,cK]
   rfl)
  (fun rec2=>by
   rw[yX]
   simp only[bP,aB,hw]
   rw[List.take_of_length_le (by omega)]) F (by omega)
 rw[List.take_zero,cB] at this
 exact this
theorem aOz (m:Im) (l:List (List Sh)) (f:Int) (r) (h:sZ m l f=some r):∃k,aG9 k m l f=some r:=by
 unfold sZ at h
 cases hb:aJ m&&eN l <;> simp only[hb,aA,aB] at h
 ·cases h
 injection h with h
 subst h
 simp only[aC] at hb
 obtain⟨hs,hl⟩:=hb
 obtain⟨F,hF⟩:∃F:Nat,1000<F:=⟨1001,by omega⟩
 refine⟨F,?_⟩
 have fold:∀g:Int,m.2.2.2.1.getD g.toNat zMt=aD m g:=fun _=>rfl
 have fold3:(aD m f).2.2.2.1.length=codeN m f:=rfl
 have fold4:(aD m f).2.2.2.2.2.1=eA m f:=rfl
 unfold aG9 mK
 simp only[fold,fold3,fold4]
 cases hf:inM m f
 ·simp only[aB]
  have:¬(0≤f∧f<(m.2.2.2.1.length:Int)):=fun hh=>by rw[bC.2 hh] at hf;cases hf
  by_cases h0:f<0
  ·simp only[h0,aN,aA]
  ·have h1:f≥(m.2.2.2.1.length:Int):=by omega
   simp only[h0,h1,aN,bU,aA,aB]
 obtain⟨f0,f1⟩:=bC.1 hf
 have f2:¬f<0:=by omega
 have f3:¬f≥(m.2.2.2.1.length:Int):=by omega
 have hc:=eU hs hf
 have hc0:((codeN m f:Int)==0)=false:=oQ.2 (by omega)
 rw[bM f2,aB,bM f3,aB,aI f0,aI f1,aH,aA,hc0,aB,aA,aA,aA]
 rw[aDh (by omega) (by omega) (by omega) (by omega),aK]
 have:=zM (L:=aBi m l f F) (n:=codeN m f) (B:=3) (st:=fun k out=>(fA (codeN m f:Int) (-1) 0 (eA m f)::out,(k:Int),())) (f:=fun k=>nT m l f (k:Int)) (fin:=fun out=>some (fA (codeN m f:Int) (-1) 0 (eA m f)::out,()))
  (fun k _=>aF6 ..)
  (fun k out rec hk ho=>by
   have hw:=bG hk (show _≤lenMax by simp only[lenMax];omega)
   have hp:pE l f (k:Int)=some (bS l f (k:Int),()):=by unfold pE;simp only[f0,dge,aN,aH,aA]
   have hst:pT m f (k:Int) (bS l f (k:Int)).2.1=some (aQ m f (k:Int) (bS l f (k:Int)).2.1):=by unfold pT;rw[hs,aFV hl];rfl
   have fold2:(aD m f).2.2.2.1.getD k zIns=aG m f (k:Int):=rfl
   have d1:decide ((k:Int)<(((aD m f).2.2.2.1.length:Nat):Int))=true:=dlt hk
   rw[aBi]
   dsimp only
   rw[fold,d1,aA,dge,uL,aA,hp,aK]
   dsimp only
   cases h1:(bS l f (k:Int)).1
   case false=>
    rw[cF,aA,hw]
    simp only[nT,h1,cF,aA,cB]
   rw[aY,aB,hst,aK]
   have h2:(aQ m f (k:Int) (bS l f (k:Int)).2.1).2.1.length≤2:=sL ..
   cases h3:(aQ m f (k:Int) (bS l f (k:Int)).2.1).2.2.1 !=0
   case true=>
    rw[aA,hw]
    simp only[nT,h1,h3,aY,aB,aA,cB]
   obtain⟨-,-,-,hto⟩:=nO hs (f:=f) (pc:=(k:Int)) (s:=(bS l f (k:Int)).2.1) (by simpa using h3)
   rw[aB]
   have hrule:nT m l f (k:Int)=(bif decide ((aQ m f (k:Int) (bS l f (k:Int)).2.1).2.1.length=0) then[fA (codeN m f:Int) (k:Int) (-1) 0] else[])++(aQ m f (k:Int) (bS l f (k:Int)).2.1).2.1.map fun to=>fA (codeN m f:Int) (k:Int) to (IntKind.i64.wrap (0 - iH m (aG m f (k:Int)))):=by simp only[nT,h1,h3,aY,aB]
   rw[hrule]
   generalize hS:aQ m f (k:Int) (bS l f (k:Int)).2.1=S at h2 h3 hto
   have inner:=aM7 hs hf hk h2 hto (o:=fA (codeN m f:Int) (-1) 0 (eA m f)::out) (rec:=rec) hF
   by_cases h0:S.2.1.length=0
   ·have e1:((S.2.1.length:Int)==0)=true:=by rw[h0];rfl
    have e2:decide (S.2.1.length=0)=true:=aI h0
    have hroom:decide ((fA (codeN m f:Int) (-1) 0 (eA m f)::out).length+(0+1)<rowMax)=true:=mM (by simp only[aF];omega)
    rw[e1,e2,aA,aA]
    rw[fold3,aDh (by omega) (by omega) (by omega) (by omega),aK]
    have e3:∀q:Iq,([q]:List Iq).length=0+1:=fun _=>rfl
    rw[e3,hroom,aA,aK]
    refine (inner (fA (codeN m f:Int) (-1) 0 (eA m f)::out++[fA (codeN m f:Int) (k:Int) (-1) 0]) (by rw[aX,aF,aF,bK];omega)).trans ?_
    rw[cK,sA]
   ·have e1:((S.2.1.length:Int)==0)=false:=oQ.2 (by omega)
    have e2:decide (S.2.1.length=0)=false:=bM h0
    rw[e1,e2,aB,aB,aK]
    refine (inner (fA (codeN m f:Int) (-1) 0 (eA m f)::out) (by rw[aF];omega)).trans ?_
    rw[sA,oS])
  (fun out rec _=>by
   rw[aBi]
   simp only[fold,fold3,bP,aB,idL]) F (by omega)
 exact this
theorem aM8 {m:Im} (hs:aJ m=true) (l:List (List Sh)) (f:Int):(mK m l f).length≤1000:=by
 unfold mK
 cases hf:inM m f <;> simp only[aA,aB]
 ·simp
 have hc:=eU hs hf
 have key:∀n:Nat,(((List.range n).map fun k:Nat=>nT m l f (k:Int)).flatten).length≤3*n:=by
  intro n
  induction n with
  | zero=>simp
  | succ n ih=>
   have:=aF6 m l f (n:Int)
   rw[List.range_succ,jZ,iL,aX]
   simp only[dO,List.map_nil,gO,kB,cB]
   omega
 have:=key (codeN m f)
 rw[aF]
 omega
theorem aM9 {m:Im} (l:List (List Sh)) (f:Int):∀q∈mK m l f,q.1.length=codeN m f:=by
 have hr:∀a b c:Int,(fA (codeN m f:Int) a b c).1.length=codeN m f:=by
  intro a b c
  unfold fA aCr
  cases decide (a≥0) <;> cases decide (b≥0) <;> simp
 intro q hq
 unfold mK at hq
 cases hf:inM m f <;> simp only[hf,aA,aB] at hq
 ·cases hq
 rcases bL.1 hq with rfl | hq
 ·exact hr ..
 simp only[iX,fR] at hq
 obtain⟨x,⟨k,-,rfl⟩,hq⟩:=hq
 unfold nT at hq
 cases h1: !(bS l f (k:Int)).1 <;> simp only[h1,aA,aB] at hq
 ·cases h2:(aQ m f (k:Int) (bS l f (k:Int)).2.1).2.2.1 !=0 <;> simp only[h2,aA,aB] at hq
  ·rw[cJ] at hq
   rcases hq with hq | hq
   ·cases h3:decide ((aQ m f (k:Int) (bS l f (k:Int)).2.1).2.1.length=0) <;> simp only[h3,aA,aB] at hq
    ·cases hq
    ·rw[dV] at hq;subst hq;exact hr ..
   ·obtain⟨t,-,rfl⟩:=fR.1 hq
    exact hr ..
  ·cases hq
 ·cases hq
theorem aHk {m:Im} {l:List (List Sh)} (hs:aJ m=true) (hl:eN l=true):∀(j k F:Nat),k+j=m.2.2.2.1.length→j<F→aE (vS m l 1001) F ((k:Int),())=some (yY m l ((List.range' k j).map fun n:Nat=>(n:Int)))
 | 0,k,F,hk,hF=>by
  obtain⟨F,rfl⟩:∃n,F=n+1:=⟨F - 1,by omega⟩
  have:k=m.2.2.2.1.length:=by omega
  subst this
  rw[aZ,vS]
  simp only[bP,aB]
  rfl
 | j+1,k,F,hk,hF=>by
  obtain⟨F,rfl⟩:∃n,F=n+1:=⟨F - 1,by omega⟩
  have h12:=(dD (dI hs).1).methods
  have hlt:k<m.2.2.2.1.length:=by omega
  have hin:inM m (k:Int)=true:=bC.2 ⟨by omega,by omega⟩
  have hc:=eU hs hin
  have hw:=bG hlt (show _≤lenMax by simp only[lenMax];omega)
  have fold:∀g:Nat,m.2.2.2.1.getD g zMt=aD m (g:Int):=fun _=>rfl
  have fold4:(aD m (k:Int)).2.2.2.2.2.2.1=eF m (k:Int):=rfl
  have hr:sZ m l (k:Int)=some (mK m l (k:Int),()):=by unfold sZ;rw[hs,hl];rfl
  have hrl:=aM8 hs l (k:Int)
  rw[aZ,vS]
  simp only[dlt hlt,dge,aH,aA,hr,aK]
  have key:=mU (L:=aBs m ((k:Int),()) (aE (vS m l 1001) F) (mK m l (k:Int),())) (xs:=mK m l (k:Int)) (st:=fun j=>((j:Int),())) (p:=aBP m (k:Int)) (ex:=some ((k:Int),6,())) (fin:=bif (eF m (k:Int)).any vU then some ((k:Int),6,()) else aE (vS m l 1001) F (((k+1:Nat):Int),()))
   (fun j q rec hj hjl=>by
    have hh:wG q (eF m (k:Int))=some (pS q (eF m (k:Int))):=by
     have:=aM9 (m:=m) l (k:Int) q (iW hj)
     unfold wG;rw[fB (by omega)];rfl
    rw[aBs]
    simp only[dlt hjl,dge,aH,aA,aR,getD_some hj,fold,fold4,hh,aK,bG hjl (show _≤lenMax by simp only[lenMax];omega),aBP]
    by_cases he:(pS q (eF m (k:Int))).2.1=0
    ·have:((pS q (eF m (k:Int))).2.1 !=0)=false:=by simp[he]
     simp only[he,aN,eJ]
     cases (pS q (eF m (k:Int))).1 <;> rfl
    ·have:((pS q (eF m (k:Int))).2.1 !=0)=true:=by simp[he]
     simp only[this,he,bU,lA,aA,aB])
   (fun rec=>by
    rw[aBs]
    simp only[bP,aB,aR,fold,fold4,aAc,hw]) 1001 (by omega)
  refine key.trans ?_
  rw[List.range'_succ,dO,yY]
  cases (mK m l (k:Int)).all (aBP m (k:Int)) <;> simp only[aA,aB]
  cases (eF m (k:Int)).any vU <;> simp only[aA,aB]
  exact aHk hs hl j (k+1) F (by omega) (by omega)
theorem aOS (m:Im) (l:List (List Sh)) (r) (h:pG m l=some r):∃k,aHl k m l=some r:=by
 unfold pG at h
 cases hb:aJ m&&eN l <;> simp only[hb,aA,aB] at h
 ·cases h
 injection h with h
 subst h
 simp only[aC] at hb
 have h12:=(dD (dI hb.1).1).methods
 refine⟨1001,?_⟩
 unfold aHl
 rw[show ints m.2.2.2.1.length=(List.range' 0 m.2.2.2.1.length).map fun n:Nat=>(n:Int) by rw[←List.range_eq_range'];rfl]
 exact aHk hb.1 hb.2 m.2.2.2.1.length 0 1001 (by omega) (by omega)
theorem aOv (m:Im) (i:Ins) (r) (h:sX m i=some r):∃k,aG2 k m i=some r:=by
 unfold sX at h
 cases hb:cN m&&(bX m i).all (inM m) <;> simp only[hb,aA,aB] at h
 ·cases h
 injection h with h
 subst h
 simp only[aC,bO] at hb
 obtain⟨hi,hin⟩:=hb
 have htl:=xW hi i
 have h12:=(dD hi).methods
 have hfl:=aBW hi i.2.1
 have ht:vD m i=some (bX m i,()):=by unfold vD;rw[hi];rfl
 have hc:jA m i.2.1=some (dP m i.2.1,()):=by unfold jA;rw[hi];rfl
 refine⟨1001,?_⟩
 unfold aG2 mO
 rw[hc,ht]
 cases i.1==22 <;> cases i.1==23 <;> simp only[aA,aB,aK]
 ·have:=rB (L:=aBf m (bX m i,())) (n:=(bX m i).length) (st:=fun k=>(lL (((bX m i).take k).map (eA m)),(k:Int),())) (fin:=some (lL ((bX m i).map (eA m)),()))
   (fun k rec hk=>by
    have hw:=bG hk (show _≤lenMax by simp only[lenMax];omega)
    have hx:(bX m i)[k]? =some (bX m i)[k]:=aT hk
    obtain⟨g0,g1⟩:=bC.1 (hin _ (dX hk))
    have fold:∀g:Int,m.2.2.2.1.getD g.toNat zMt=aD m g:=fun _=>rfl
    have fold4:∀g,(aD m g).2.2.2.2.2.1=eA m g:=fun _=>rfl
    rw[aBf]
    simp only[dlt hk,dge,aH,aA,aR,getD_some hx,hw,fold,fold4,g0,g1,aN]
    rw[rW,hx]
    generalize (bX m i)[k]=g
    have hm:lL (((bX m i).take k++(some g).toList).map (eA m))=max (lL (((bX m i).take k).map (eA m))) (eA m g):=by
     unfold lL
     rw[jZ,List.foldl_append]
     rfl
    rw[hm]
    by_cases hgt:eA m g>lL (((bX m i).take k).map (eA m))
    ·rw[aI hgt,Int.max_eq_right (by omega)];rfl
    ·rw[bM hgt,Int.max_eq_left (by omega)];rfl)
   (fun rec=>by
    rw[aBf]
    simp only[bP,aB,iD]) 1001 (by omega)
  exact this
 ·unfold qN
  rw[cY (by omega) (by omega)]
  simp
 ·unfold qN
  rw[cY (by omega) (by omega)]
  simp
end Go.Pli

/- All of layer 13 to 16's functions. -/
